/-
  Texts of the proofs, one behind the other: Keep, SyOwn, SyBox, SyMem, SyPart, SyStr, Hmix, NumD, NumShelf, NumLib, Num, NumPlain, NumRef, NumRefP, NumScans, NumLaws, NumReads.
-/
import Derived.Test.YtcoefgkjlgngkaaGreatDoorSPg01
import Derived.Deep.QuietTactic
import Derived.BigQuiet
import Derived.Deep.RegionHeld3
import Derived.StillTailTactics
import Derived.IntWalk
import Derived.Great.FillDense
import Derived.Great.BuildSlice
import Derived.Laws.MakeOwn
import Derived.Deep.RegionHeld
import Derived.Laws.StructEq
import Derived.ChangeKeysEq
import Derived.Lib.OthersKept
import Derived.Laws.IdiomStrings
import Derived.Test.YtcoefgkjlgngkaaGreatDoorProg
import Derived.KernelRfl
import Derived.Shelf.LaysM
import Derived.Shelf.Strconv.Itoa4
import Derived.Shelf.LaysC
import Derived.Shelf.Strconv.ParseIntPublic10
import Derived.Shelf.Strconv.ErrVarParseInt
import Derived.Shelf.Strings.Prefix
import Derived.Lib.AppendIntMem
import Derived.Lib.ItoaLen
namespace Go.Proofs.YtcoefgkjlgngkaaGreatDoor
open Go.RowKit
section
variable {B b:Nat} {w w':World} {v0 v1 v2 v3:Value}
end
def flt {α:Type} (enc:α→List Value) (l:List α):List Value:=l.flatMap enc
section
variable {α:Type} {enc:α→List Value} {k:Nat}
theorem flt_nil:flt enc []=[]:=rfl
end
theorem own_shape' {w:World} {base:Nat} {e:TypeId} {size n:Nat} {v:Value} {xs:List Value} (h:w.ownsRow base e size v n xs):∃ A c,v=.slice A n c∧n≤c∧c≤9223372036854775807∧(A=none→n=0∧c=0):=by
 rcases h.2 with ⟨rfl,rfl⟩|⟨g,cap,cur,rfl,_,_,hn,hm,_⟩
 ·exact ⟨_,_,rfl,Nat.le_refl _,by omega,λ_=>⟨rfl,rfl⟩⟩
 ·exact ⟨_,_,rfl,hn,hm,λh=>by cases h⟩
namespace Sy
set_option linter.unusedVariables false
set_option linter.unusedSimpArgs false
def pull:Nat→List HP→List HP
 |0,l=>l
 |_+1,[]=>[]
 |n+1,A::l=>match pull n l with
  |[]=>[A]
  |B::r=>B::A::r
theorem sepL_pull {R:HP}:∀ (n:Nat) {l:List HP} {h:Hl},sepL l R h→sepL (pull n l) R h
 |0,l,h,s=>s
 |n+1,[],h,s=>s
 |n+1,A::l,h,s=>by
  obtain ⟨h1,h2,d,e,a,s⟩:=s
  have s':=sepL_pull n s
  have hp:pull n l=[]∨∃ B r,pull n l=B::r:=by cases pull n l<;>simp
  unfold pull
  rcases hp with hp|⟨B,r,hp⟩
  ·rw [hp] at s' ⊢
   exact ⟨h1,h2,d,e,a,s'⟩
  ·rw [hp] at s' ⊢
   exact sep_swap ⟨h1,h2,d,e,a,s'⟩
theorem Sat.left {A B:HP} {w:World} (s:Sat (sep A B) w):Sat A w:=by
 obtain ⟨h,hs,h1,h2,d,rfl,a,b⟩:=s
 exact ⟨h1,hs.left,a⟩
theorem Sat.right {A B:HP} {w:World} (s:Sat (sep A B) w):Sat B w:=by
 obtain ⟨h,hs,h1,h2,d,rfl,a,b⟩:=s
 exact ⟨h2,hs.right d,b⟩
theorem Sat.in_ {R A:HP} {w:World}:∀ (n:Nat) {l:List HP},Sat (sepL l R) w→l[n]? = some A→Sat A w
 |n,[],s,h=>by simp at h
 |0,B::l,s,h=>by simp at h;subst h;exact Sat.left s
 |n+1,B::l,s,h=>Sat.in_ n (l:=l) (Sat.right s) (by simpa using h)
theorem Sat.rest {R:HP} {w:World}:∀ {l:List HP},Sat (sepL l R) w→Sat R w
 |[],s=>s
 |B::l,s=>Sat.rest (l:=l) (Sat.right s)
def rowH (v:Value) (n:Nat) (e:TypeId) (size:Nat) (xs:List Value):HP:=λh =>
 xs.length=n * size∧((v=.slice none 0 0∧n=0∧∀ i,h i=none) ∨
  ∃ g cap cur,v=.slice (some ⟨g,0,none⟩) n cap∧(∀ i,h i=if i=g then some (.cells cur e (0,0)) else none)∧n≤cap∧cap≤maxLen∧cur.size=cap * size∧cur.toList.take (n * size)=xs)
theorem rowH_own {v:Value} {n size:Nat} {e:TypeId} {xs:List Value} {h:Hl} {w:World} (r:rowH v n e size xs h) (s:Sub h w):w.ownsRow 0 e size v n xs:=by
 obtain ⟨hl,hr⟩:=r
 refine ⟨hl,?_⟩
 rcases hr with ⟨h1,h2,_⟩|⟨g,cap,cur,h1,h2,h3⟩
 ·exact .inl ⟨h1,h2⟩
 ·exact .inr ⟨g,cap,cur,h1,Nat.zero_le _,s g _ (by rw [h2];simp),h3⟩
theorem own_rowH {v:Value} {n size base:Nat} {e:TypeId} {xs:List Value} {w:World} (r:w.ownsRow base e size v n xs):∃ h,rowH v n e size xs h∧Sub h w∧∀ i,h i≠none→v.ownBlock=some i∧base≤i:=by
 obtain ⟨hl,hr⟩:=r
 rcases hr with ⟨h1,h2⟩|⟨g,cap,cur,h1,hg,h2,h3⟩
 ·exact ⟨λ_=>none,⟨hl,.inl ⟨h1,h2,λ_=>rfl⟩⟩,(λi o e=>by cases e),λi c=>absurd rfl c⟩
 ·refine ⟨λi=>if i=g then some (.cells cur e (0,0)) else none,⟨hl,.inr ⟨g,cap,cur,h1,λ_=>rfl,h3⟩⟩,λi o e=>?_,λi c=>?_⟩
  ·simp only at e
   split at e
   ·rename_i hi;subst hi;rw [← e];exact h2
   ·cases e
  ·simp only at c
   split at c
   ·rename_i hi;subst hi;exact ⟨by rw [h1];rfl,hg⟩
   ·exact absurd rfl c
theorem sat_row {A:HP} {w w':World} {v:Value} {n size:Nat} {e:TypeId} {xs:List Value} (s:Sat A w) (hb:Below w.heap.size w w') (r:w'.ownsRow w.heap.size e size v n xs):Sat (sep (rowH v n e size xs) A) w':=by
 obtain ⟨h2,s2,a⟩:=s
 obtain ⟨h1,r1,s1,d⟩:=own_rowH r
 refine ⟨un h1 h2,s1.un (s2.below hb),h1,h2,λi=>?_,rfl,r1,a⟩
 by_cases c:h1 i=none
 ·exact .inl c
 ·exact .inr (s2.none (d i c).2)
theorem putK_go {G:Gl} {st:St} {d:Option Nat} {x:SV} {K:St→Prop} (h:putK G st d x none K) {ρ:List Nat} {a:Act} {w:World} {v:Value} (hx:x.den ρ=some v) (m:Tm G st ρ a) (mm:Mem G st ρ w):∃ st',K st'∧Tm G st' ρ (a.put d v)∧Mem G st' ρ w:=by
 obtain ⟨t,o,n,hh,c⟩:=st
 unfold putK at h
 cases d with
 |some i =>
  simp only at h
  split at h
  ·rename_i hi
   have hi':i < G.N:=Nat.le_of_ble_eq_true hi
   exact ⟨_,h,m.put_ hi' hx _ _ _ _,mm.same rfl rfl rfl⟩
  ·exact h.elim
 |none=>exact ⟨_,h,m,mm⟩
def SemR (P:Program) (R:HP) (s:Sem Go.Next) (pre:List HP) (post:Value→List HP→Prop):Prop :=
 ∀ w,Sat (sepL pre R) w→∃ v hs w',s.run P w=.ok (.value v) w'∧post v hs∧Sat (sepL hs R) w'∧Wd w w'
theorem OpAt.sem {G:Gl} {o:Oper} {st:St} {K:St→Prop} {pre:List HP} {post:Value→List HP→Prop} (rest:List HP) (hp:∀ h,sepL st.h G.R h→sepL (pre++rest) G.R h) (hsel:notSel o.op=true) (hr:allR st o.op.operands.toList=true)
  (hf:∀ R',(∀ w,Sat R' w→Sat (sepL rest G.R) w)→SemR G.P R' (execOp (evR st) o) pre post) (k:∀ v hs,post v hs→putK G { st with h:=hs++rest } o.dst (.v v) none K):OpAt G o st K:=by
 refine .mk λρ a w m mm=>?_
 obtain ⟨h,h1,h2,h3,h4⟩:=mem_split mm
 have h2:=hp h h2
 rw [sepL_append] at h2
 obtain ⟨v,hs,w',hrun,hv,⟨g,g1,s⟩,hw⟩:=hf (plus (obj st ρ w) (sepL rest G.R)) (by
  rintro w' ⟨g,g1,⟨g2,d,rfl,s⟩⟩
  exact ⟨g2,g1.right d,s⟩) w ⟨_,h4.un h1,plus_in h3 h2⟩
 have hc:execOp a.eval o=execOp (evR st) o:=execOp_congr o (λcs b=>notSel_spec hsel cs b) λx hx=>allR_sound m hr x (by simpa using hx)
 have mm':Mem G { st with h:=hs++rest } ρ w':=by
  refine mem_join mm hw g1 ?_
  have:=plus_out s
  rwa [sepL_append]
 obtain ⟨st',k',m',mm2⟩:=putK_go (k v hs hv) (ρ:=ρ) (v:=v) rfl (m.same rfl) mm'
 unfold Oper.wp
 rw [hc,hrun]
 exact ⟨st',ρ,k',m',mm2,Ext.refl _⟩
def dens:Nat→List (Nat × Operand)→Bool
 |_,[]=>true
 |n,(i,_)::l=>match Nat.beq i n with
  |true=>dens (n+1) l
  |false=>false
theorem dens_eq {ev:Operand→Value}:∀ {l:List (Nat × Operand)} {n:Nat},dens n l=true→l.map (λ(i,x)=>(i,ev x))=((l.map λp=>ev p.2).zipIdx n).map λx=>(x.2,x.1)
 |[],n,_=>rfl
 |(i,x)::l,n,h=>by
  unfold dens at h
  split at h
  ·rename_i e
   have:=beq_of e
   subst this
   simp [dens_eq h]
  ·cases h
def cellsOf (vs:List Value):List Value:=vs.flatMap λv=>v.cells.toList
theorem fill_all {size:Nat} (hs:0 < size) (vs:List Value) (cells:Array Value) (hv:∀ v∈vs,v.cells.size=size) (hc:cells.size=vs.length * size) :
  Instr.fill (λi=>some (i * size,size)) cells ((vs.zipIdx 0).map λx=>(x.2,x.1))=some (cellsOf vs).toArray:=by
 obtain ⟨r,h1,h2,h3⟩:=Great.fill_dense hs vs 0 cells hv (by rw [hc];simp)
 rw [h1]
 congr 1
 apply Array.ext_getElem?
 intro k
 rw [h3 k]
 have hlen:∀ (l:List Value),(∀ v∈l,v.cells.size=size)→(cellsOf l).length=l.length * size:=by
  intro l hl
  induction l with
  |nil=>simp [cellsOf]
  |cons v l ih =>
   have:=ih λv hv=>hl v (List.mem_cons_of_mem _ hv)
   simp only [cellsOf,List.flatMap_cons,List.length_append,Array.length_toList,List.length_cons] at this ⊢
   rw [this,hl v List.mem_cons_self,Nat.add_mul]
   omega
 have hat:∀ (l:List Value) (k:Nat),(∀ v∈l,v.cells.size=size)→k < l.length * size→(cellsOf l)[k]? = (l[k / size]?).bind λv=>v.cells[k % size]?:=by
  intro l
  induction l with
  |nil=>intro k _ h;simp at h
  |cons v l ih =>
   intro k hl hk
   have hvs:=hl v List.mem_cons_self
   have hl':=λu hu=>hl u (List.mem_cons_of_mem _ hu)
   simp only [cellsOf,List.flatMap_cons]
   by_cases c:k < size
   ·rw [List.getElem?_append_left (by simp [hvs,c]),Nat.div_eq_of_lt c,Nat.mod_eq_of_lt c]
    simp
   ·rw [List.getElem?_append_right (by simp [hvs];omega)]
    have e1:k / size=(k - size) / size+1:=by
     rw [Nat.div_eq k,if_pos ⟨hs,by omega⟩]
    have e2:k % size=(k - size) % size:=by
     rw [Nat.mod_eq k,if_pos ⟨hs,by omega⟩]
    rw [e1,e2]
    have:=ih (k - size) hl' (by simp only [List.length_cons,Nat.add_mul] at hk;omega)
    simp only [cellsOf] at this
    simp only [Array.length_toList,hvs,this,List.getElem?_cons_succ]
 by_cases c:k < vs.length * size
 ·rw [if_pos ⟨by omega,by simpa using c⟩]
  simp only [List.getElem?_toArray]
  rw [hat vs k hv c]
  simp
 ·rw [if_neg (by simp;omega)]
  rw [Array.getElem?_eq_none (by omega)]
  simp only [List.getElem?_toArray]
  rw [List.getElem?_eq_none]
  rw [hlen vs hv]
  omega
theorem cellsOf_len {size:Nat}:∀ {l:List Value},(∀ v∈l,v.cells.size=size)→(cellsOf l).length=l.length * size
 |[],_=>by simp [cellsOf]
 |v::l,hl=>by
  have:=cellsOf_len λu hu=>hl u (List.mem_cons_of_mem _ hu)
  simp only [cellsOf,List.flatMap_cons,List.length_append,Array.length_toList,List.length_cons] at this ⊢
  rw [this,hl v List.mem_cons_self,Nat.add_mul]
  omega
theorem OpAt.lit {G:Gl} {o:Oper} {st:St} {K:St→Prop} {t e:TypeId} {len:Nat} {parts:Array (Nat × Operand)} {ie:TypeInfo} {z:Value} (vs:List Value) (size:Nat) (ho:o.op=.buildSlice t len parts) (hu:G.P.underlying t=some (.slice e)) (hie:G.P.info? e=some ie) (hz:ie.zero=some z)
  (hsz:ie.size=size) (hpos:0 < size) (hd:dens 0 parts.toList=true) (hr:allR st o.op.operands.toList=true) (hvs:vs=parts.toList.map λp=>evR st p.2) (hcs:∀ v∈vs,v.cells.size=size) (hl:len=vs.length) (hsm:len * size≤16777216)
  (k:∀ g,putK G { st with h:=rowH (.slice (some ⟨g,0,none⟩) len len) len e size (cellsOf vs)::st.h } o.dst (.v (.slice (some ⟨g,0,none⟩) len len)) none K):OpAt G o st K:=by
 refine OpAt.sem (pre:=[]) (post:=λv hs=>∃ g,v=.slice (some ⟨g,0,none⟩) len len∧hs=[rowH (.slice (some ⟨g,0,none⟩) len len) len e size (cellsOf vs)]) st.h (λh s=>s) (by rw [ho];rfl) hr ?_ ?_
 ·intro R' _ w s
  refine ⟨_,_,w.alloc (.cells (cellsOf vs).toArray e),?_,⟨w.heap.size,rfl,rfl⟩,?_,.of_below ((Below.refl _ _).alloc (Nat.le_refl _) _)⟩
  ·have hfill:Instr.fill (λi=>some (i * ie.size,ie.size)) ((Array.range (len * ie.size)).map (z.cells[· % z.cells.size]!)) (parts.map λ(i,x)=>(i,evR st x)).toList=some (cellsOf vs).toArray:=by
    rw [Array.toList_map,dens_eq hd,← hvs,hsz]
    exact fill_all hpos vs _ hcs (by simp [hl])
   simp only [execOp,ho,Sem.run_bind]
   by_cases h0:len=0
   ·have hv0:vs=[]:=List.eq_nil_of_length_eq_zero (by omega)
    have hp0:parts.toList=[]:=by
     rw [hv0] at hvs
     exact List.map_eq_nil_iff.1 hvs.symm
    have hp1:(parts.map λ(i,x)=>(i,evR st x)).toList=[]:=by rw [Array.toList_map,hp0];rfl
    subst h0 hv0
    simp [Instr.buildSlice,run_underlying hu,sizeOf,typeInfo,hie,newRow,newObj,hp0,Instr.fill,cellsOf]
    rw [show Array.map (λ_=>(default:Value)) (Array.range 0)=#[] from by apply Array.ext';simp]
    rfl
   ·rw [run_buildSlice w t e len _ (cellsOf vs).toArray ie z hu hie hz (by rw [hsz];omega) (by rw [hsz];exact Nat.mul_ne_zero h0 (by omega)) hfill]
    simp
  ·refine sat_row s ((Below.refl _ _).alloc (Nat.le_refl _) _) ⟨?_,.inr ⟨_,len,(cellsOf vs).toArray,rfl,Nat.le_refl _,heap_alloc_new w _,Nat.le_refl _,by simp only [maxLen];have:len≤len * size:=Nat.le_mul_of_pos_right _ hpos;omega,?_,?_⟩⟩
   all_goals
    have hlen:(cellsOf vs).length=len * size:=by rw [hl];exact cellsOf_len hcs
   ·exact hlen
   ·simpa using hlen
   ·simp only [List.toList_toArray]
    rw [List.take_of_length_le (by omega)]
 ·rintro v hs ⟨g,rfl,rfl⟩
  exact k g
theorem rowH_ne {v:Value} {n size:Nat} {e:TypeId} {xs:List Value} {h:Hl} (r:rowH v n e size xs h) {g:Nat} (hg:v.ownBlock=some g):h g≠none:=by
 rcases r.2 with ⟨rfl,_,_⟩|⟨g',cap,cur,rfl,h2,_⟩
 ·cases hg
 ·have:g'=g:=by simpa [Value.ownBlock] using hg
  subst this
  rw [h2];simp
theorem OpAt.append {G:Gl} {o:Oper} {st:St} {K:St→Prop} {t e:TypeId} {s x:Operand} {i:TypeInfo} {z:Value} (v:Value) (n size bytes:Nat) (xs news:List Value) (A:Option Addr) (m c:Nat) (rest:List HP)
  (ho:o.op=.call { callee:=.builtin .append,args:=#[s,x],argTypes:=#[t,t] }) (hp:∀ h,sepL st.h G.R h→sepL (rowH v n e size xs::rest) G.R h) (hs:evR st s=v) (hx:evR st x=.slice A m c) (hr:allR st o.op.operands.toList=true)
  (hu:G.P.underlying t=some (.slice e)) (hi:G.P.info? e=some i) (hz:i.zero=some z) (hsize:i.size=size) (hby:i.bytes=bytes) (hzs:z.cells.size=size) (hsz:0 < size)
  (src:∀ w,Sat (sepL rest G.R) w→Reads w w.heap.size size A m news) (h1:∀ u∈news,u.oneCell'=true) (h63:n+m≤maxLen) (hbytes:(n+m) * bytes≤140737488355328)
  (k:∀ A' c',putK G { st with h:=rowH (.slice A' (n+m) c') (n+m) e size (xs++news)::rest } o.dst (.v (.slice A' (n+m) c')) none K):OpAt G o st K:=by
 refine OpAt.sem (pre:=[rowH v n e size xs]) (post:=λv' hs=>∃ A' c',v'=.slice A' (n+m) c'∧hs=[rowH (.slice A' (n+m) c') (n+m) e size (xs++news)]) rest hp (by rw [ho];rfl) hr ?_ ?_
 ·rintro R' hR' w ⟨h,hsub,h1',h2,d,rfl,hrow,hrest⟩
  have hown:=rowH_own hrow hsub.left
  have hrd:=src w (hR' w ⟨h2,hsub.right d,hrest⟩)
  obtain ⟨v',w',hrun,hown',hB,hg,hat⟩:=run_append_appl (P:=G.P) w 0 t o.type e i z size bytes hu hi hz hsize hby hzs hsz v n xs (.inl hown) w.heap.size A m c news hrd h1 (.inr hown) h63 hbytes (Nat.zero_le _)
  obtain ⟨A',c',rfl,_⟩:=own_shape' hown'
  obtain ⟨h1'',r1,s1,dom⟩:=own_rowH hown'
  have s2:Sub h2 w':=λj ob e'=>by
   have hj:=hsub.right d j ob e'
   have hlt:=(Array.getElem?_eq_some_iff.1 hj).1
   rw [hg.block j hlt ?_]
   ·exact hj
   ·intro c0
    rcases d j with c1|c1
    ·exact rowH_ne hrow c0.symm c1
    ·rw [c1] at e';cases e'
  refine ⟨_,_,w',?_,⟨A',c',rfl,rfl⟩,⟨_,s1.un s2,h1'',h2,λj=>?_,rfl,r1,hrest⟩,⟨hg.os,hg.tape,hg.output,hg.size⟩⟩
  ·have ha:(#[s,x]:Array Operand).map (evR st)=#[v,.slice A m c]:=by simp [hs,hx]
   simp only [execOp,ho,resolve,invoke,builtin,Sem.run_bind,Sem.run_pure,Result.andThen_ok,ha,hrun]
  ·by_cases c0:h1'' j=none
   ·exact .inl c0
   ·right
    have hj:=(dom j c0).1
    rcases hat with hat|⟨g,hat,hge⟩
    ·rw [hat] at hj
     rcases d j with c1|c1
     ·exact absurd c1 (rowH_ne hrow hj)
     ·exact c1
    ·rw [hat] at hj
     injection hj with hj
     subst hj
     exact (hsub.right d).none hge
 ·rintro v' hs' ⟨A',c',rfl,rfl⟩
  exact k A' c'
theorem rowH_reads {v:Value} {A:Option Addr} {n c size:Nat} {e:TypeId} {xs:List Value} {w:World} (hv:v=.slice A n c) (s:Sat (rowH v n e size xs) w):Reads w w.heap.size size A n xs:=by
 obtain ⟨h,hs,r⟩:=s
 subst hv
 exact Reads.of_own (rowH_own r hs)
theorem LoopAt.heap {G:Gl} {body:St→(St→Prop)→Prop} {st:St} {α:Type} (Kp:List Nat) (S:α→List (Nat × SV)) (H:α→List HP) (pre:α→Prop) (μ:α→Nat) (a0:α) (h0:pre a0)
  (hB:Nat.ble G.B.length st.n=true) (s0:leT st.n st.t (S a0)) (kk:leT st.n st.t (keepT st.t Kp)) (ho:leO st.n st.o st.o) (hh:∀ h,sepL st.h G.R h→∃ h',(∀ i o,h' i=some o→h i=some o)∧sepL (H a0) G.R h')
  (round:∀ a,pre a→forceL (S a++keepT st.t Kp) λt=>body ⟨t,st.o,st.n,H a,True⟩ λst'=>stp st' λst'=>Next G pre μ (λa=>hd (S a) Kp st.o (H a) st) (μ a) st'):LoopAt G body st :=
 LoopAt.of Kp S (λ_=>st.o) H pre μ a0 h0 (Le.of (Nat.le_refl _) (Nat.le_of_ble_eq_true hB) (leT_append s0 kk) ho hh) round
theorem Next.heap {G:Gl} {st st':St} {α:Type} {Kp:List Nat} {S:α→List (Nat × SV)} {H:α→List HP} {pre:α→Prop} {μ:α→Nat} {m:Nat} (a:α) (h:pre a) (hlt:μ a < m)
  (s0:leT st.n st'.t (S a)) (kk:leT st.n st'.t (keepT st.t Kp)) (ho:leO st.n st'.o st.o) (hn:Nat.ble st.n st'.n=true) (hB:Nat.ble G.B.length st.n=true) (hh:∀ h,sepL st'.h G.R h→∃ h',(∀ i o,h' i=some o→h i=some o)∧sepL (H a) G.R h') :
  Next G pre μ (λa=>hd (S a) Kp st.o (H a) st) m st' :=
 ⟨a,h,hlt,Le.of (Nat.le_of_ble_eq_true hn) (Nat.le_of_ble_eq_true hB) (leT_append s0 kk) ho hh⟩
theorem sub_tail {A:HP} {l:List HP} {R:HP} {h:Hl} (s:sepL (A::l) R h):∃ h',(∀ i o,h' i=some o→h i=some o)∧sepL l R h':=by
 obtain ⟨h1,h2,d,rfl,a,s⟩:=s
 refine ⟨h2,λi o e=>?_,s⟩
 unfold un
 rcases d i with c|c
 ·rw [c,e];rfl
 ·rw [c] at e;cases e
theorem sub_same {l:List HP} {R:HP} {h:Hl} (s:sepL l R h):∃ h',(∀ i o,h' i=some o→h i=some o)∧sepL l R h':=⟨h,λ_ _ e=>e,s⟩
end Sy
namespace Sy
set_option linter.unusedVariables false
set_option linter.unusedSimpArgs false
def opS (G:Gl) (o:Oper) (st:St) (K:St→Prop):Prop :=
 match o.op with
 |.load t x=>ev st x False λvx=>match vx with
  |.v (.pointer (some ad))=>stp st λst=>LoadAt G t ad st λr=>putK G st o.dst r none K
  |_=>q1 G.P G.tr st o False λr q=>putK G st o.dst r q K
 |_=>q1 G.P G.tr st o False λr q=>putK G st o.dst r q K
def chk (cs:List SV) (size:Nat) (A:Prop):Prop:=match Nat.beq cs.length size with
 |true=>match oneL cs with
  |true=>A
  |false=>False
 |false=>False
inductive Stp|T (k:Nat)|H (k:Nat)
def stepsB (ops:Array Oper) (n:Nat) (F:Array Bool→Bool):List Stp→Array Bool→Bool
 |[],ls=>F ls && (Region.ready .any ops ls).all λj=>decide (n≤j)
 |.T k::r,ls=>decide (k < n) && ((Region.ready .any ops ls).contains k && (Region.free .any ops ls k && stepsB ops n F r (ls.setIfInBounds k true)))
 |.H k::r,ls=>decide (k < n) && (decide (Region.ready .any ops ls=[k]) && stepsB ops n F r (ls.setIfInBounds k true))
def grpsB (ops:Array Oper):List (List Stp × Nat)→Array Bool→Bool
 |[],ls=>decide (Region.ready .any ops ls=[])
 |(g,n)::r,ls=>(decide (ops.size≤n) || (decide (n < ops.size) && (Region.sinkB .any ops n && chainW ops n))) && (headW ops n ls && stepsB ops n (λls'=>grpsB ops r ls') g ls)
def grpLen:List (List Stp × Nat)→Nat
 |[]=>0
 |(g,_)::r=>g.length+grpLen r
def groupsB (l:List Oper) (gs:List (List Stp × Nat)):Bool:=Region.noSelect l.toArray && (decide (grpLen gs=l.length) && grpsB l.toArray gs (Array.replicate l.toArray.size false))
def HdG (P:Program) (ops:Array Oper) (Q:Exit→Act→World→Prop) (S:World→Prop) (n:Nat) (L:Array Bool→Act→World→Prop):Nat→Array Bool→Act→World→Prop
 |0,ls,a,w=>L ls a w
 |f+1,ls,a,w=>Region.ready .any ops ls≠[]∧∀ i,i∈Region.ready .any ops ls→i < n∧wpOp P ops Q i (λa' w'=>S w'∧HdG P ops Q S n L f (ls.setIfInBounds i true) a' w') a w
theorem HdG.any {P:Program} {ops:Array Oper} {Q:Exit→Act→World→Prop} {S:World→Prop} {n g:Nat} {L:Array Bool→Act→World→Prop} (hL:∀ ls a w,L ls a w→wpAny P .any ops Q g ls a w) :
  ∀ (f:Nat) (ls:Array Bool) (a:Act) (w:World),HdG P ops Q S n L f ls a w→wpAny P .any ops Q (f+g) ls a w
 |0,ls,a,w,h=>by rw [Nat.zero_add];exact hL ls a w h
 |f+1,ls,a,w,h=>by
  rw [show f+1+g=(f+g)+1 by omega]
  exact ⟨λh0=>absurd h0 h.1,λi hi=>wpOp_mono (λa' w' h'=>HdG.any hL f _ a' w' h'.2) (h.2 i hi).2⟩
def wallB (ops:Array Oper) (n:Nat):Prop:=ops.size≤n∨(n < ops.size∧Region.sinkB .any ops n=true∧chainW ops n=true)
theorem wall_lt {ops:Array Oper} {n:Nat} (hn:wallB ops n) {ls:Array Bool} (inv:HeadInv .any ops n ls) {i:Nat} (hin:i < n) (hun:ls.getD i true=false) {j:Nat} (hj:j∈Region.ready .any ops ls):j < n:=by
 rcases hn with h|⟨h1,h2,h3⟩
 ·obtain ⟨_,oj,hoj,_⟩:=mem_ready.1 hj
  have:=(Array.getElem?_eq_some_iff.1 hoj).1
  omega
 ·exact Nat.lt_of_not_le λc=>tail_waitsW h2 h3 h1 inv _ i rfl hin hun j c hj
theorem HdG.take {P:Program} {ops:Array Oper} {Q:Exit→Act→World→Prop} {S:World→Prop} {n i:Nat} {oi:Oper} {v:Value} {L:Array Bool→Act→World→Prop} (hi:ops[i]? = some oi) (hsel:Region.noSelect ops=true) (hn:wallB ops n) (hin:i < n)
  (hQ:∀ c a w,Q (.panic c) (a.put oi.dst v) w→Q (.panic c) a w) (hdone:∀ ls a w,L ls a w→∀ j∈Region.ready .any ops ls,n≤j) :
  ∀ (f:Nat) (ls:Array Bool) (a:Act) (w:World),HeadInv .any ops n ls →
   (∀ j oj,ops[j]? = some oj→j≠i→ls.getD j true=false→(∀ e∈oj.after,Region.binds .any e=true→e.on≠i)→oi.apart ops oj=true) →
   i∈Region.ready .any ops ls→YieldsIf P ops S oi v a→S w→HdG P ops Q S n L f (ls.setIfInBounds i true) (a.put oi.dst v) w→HdG P ops Q S n L (f+1) ls a w:=by
 have sel:=Region.noSelect_spec hsel
 intro f
 induction f with
 |zero =>
  intro ls a w inv _ hr hy hS H
  have hun:=(mem_ready.1 hr).1
  refine ⟨List.ne_nil_of_mem hr,λj hj=>?_⟩
  have hjn:=wall_lt hn inv hin hun hj
  refine ⟨hjn,?_⟩
  by_cases hji:j=i
  ·subst hji;exact hy.wpOp hi hS ⟨hS,H⟩
  ·have:=hdone _ _ _ H j (ready_mono hj hji)
   omega
 |succ f ih =>
  intro ls a w inv hfree hr hy hS H
  have hun:=(mem_ready.1 hr).1
  refine ⟨List.ne_nil_of_mem hr,λj hj=>?_⟩
  have hjn:=wall_lt hn inv hin hun hj
  refine ⟨hjn,?_⟩
  by_cases hji:j=i
  ·subst hji;exact hy.wpOp hi hS ⟨hS,H⟩
  ·have h1:=(H.2 j (ready_mono hj hji)).2
   obtain ⟨hjun,oj,hoj,hall⟩:=mem_ready.1 hj
   have hnot:∀ e∈oj.after,Region.binds .any e=true→e.on≠i:=by
    intro e he hb heq
    have h3:=hall e he hb
    rw [heq,getD_both hun] at h3
    cases h3
   have h2:=wpOp_putIf hoj (hfree j oj hoj hji hjun hnot) (λcs b=>sel i oi cs b hi) (λcs b=>sel j oj cs b hoj) hQ hy h1
   refine wpOp_mono (λa' w' h3=>⟨h3.2.1,ih (ls.setIfInBounds j true) a' w' (inv.set hj hjn) ?_ (ready_mono hr (Ne.symm hji)) h3.1 h3.2.1 ?_⟩) h2
   ·intro k ok hk hki hunk hno
    refine hfree k ok hk hki ?_ hno
    by_cases hjk:j=k
    ·subst hjk;exact hjun
    ·rw [getD_set_ne true hjk] at hunk;exact hunk
   ·rw [Array.setIfInBounds_comm _ _ hji]
    exact h3.2.2
def opT (G:Gl) (hs:List HP) (o:Oper) (st:St) (K:St→Prop):Prop :=
 match o.op with
 |.load t x=>ev st x False λvx=>match vx with
  |.v (.pointer (some ad))=>stp st λst=>LoadAt G t ad { st with h:=hs } λr=>putK G st o.dst r none K
  |_=>q1 G.P G.tr st o False λr q=>putK G st o.dst r q K
 |_=>q1 G.P G.tr st o False λr q=>putK G st o.dst r q K
def TakeT (G:Gl) (hs:List HP) (o:Oper) (st:St) (K:St→Prop):Prop :=
 st.c∧∀ ρ a w0,Tm G st ρ a→Mem G { st with h:=hs } ρ w0→∃ v st',K st'∧SameM st st'∧(∀ w,Mem G { st with h:=hs } ρ w→(execOp a.eval o).run G.P w=.ok (.value v) w)∧Tm G st' ρ (a.put o.dst v)
theorem take_q1 {G:Gl} {hs:List HP} {o:Oper} {st:St} {K:St→Prop} (hK:Good K) (h:q1 G.P G.tr st o False λr q=>putK G st o.dst r q K):TakeT G hs o st K:=by
 rcases q1_sound h with h|⟨x,q,h,hy⟩
 ·exact h.elim
 ·obtain ⟨⟨hc,hq⟩,hp⟩:=putK_same h hK
  refine ⟨hc,λρ a w0 m mm0=>?_⟩
  have hy:=hy hq
  obtain ⟨v,e1,e2⟩:=hy G ρ a w0 m mm0.ob
  obtain ⟨st',k,hs,m'⟩:=hp ρ a v e1 m
  refine ⟨v,st',k,hs,λw' mm'=>?_,m'⟩
  obtain ⟨v',e3,e4⟩:=hy G ρ a w' m mm'.ob
  rw [e1] at e3
  injection e3 with e3
  subst e3
  exact e4
theorem opT_sound {G:Gl} {hs:List HP} {o:Oper} {st:St} {K:St→Prop} (h:opT G hs o st K) (hK:Good K):TakeT G hs o st K:=by
 unfold opT at h
 split at h
 case h_1 t x ho =>
  rcases ev_sound h with h|⟨sx,h,ex⟩
  ·exact h.elim
  split at h
  ·rename_i ad
   obtain ⟨hc,⟨r,hr,h⟩⟩:=stp_iff.1 h
   refine ⟨hc,λρ a w0 m mm0=>?_⟩
   obtain ⟨_,hp⟩:=putK_same h hK
   obtain ⟨st',k,hs,m'⟩:=hp ρ a r rfl (m.same rfl)
   refine ⟨r,st',k,hs,λw mm=>?_,m'⟩
   have h1:=ex G ρ a m
   simp only [SV.den,Option.some.injEq] at h1
   simp [execOp,ho,← h1,hr ρ w (mm.same rfl rfl rfl)]
  ·exact take_q1 hK h
 case h_2=>exact take_q1 hK h
def Kept (G:Gl) (st0 st:St):Prop:=(st.o=st0.o∧st.n=st0.n)∧∀ h,sepL st.h G.R h→∃ h',(∀ i o,h' i=some o→h i=some o)∧sepL st0.h G.R h'
def grpG (G:Gl) (all:List Oper) (kp:Bool) (st0:St):List Stp→St→(St→Prop)→Prop
 |[],st,K=>K st
 |.T k::r,st,K=>match kp with
  |true=>match all[k]? with
   |some o=>opsG (opT G st0.h) G all [o] st λst=>grpG G all kp st0 r st K
   |none=>False
  |false=>False
 |.H k::r,st,K=>match all[k]? with
  |some o=>opsG (op1 G) G all [o] st λst=>match kp with
    |true=>stp st λst=>Kept G st0 st∧grpG G all kp st0 r st K
    |false=>grpG G all kp st0 r st K
  |none=>False
def hasT:List Stp→Bool
 |[]=>false
 |.T _::_=>true
 |.H _::r=>hasT r
def grpsG (G:Gl) (all:List Oper):List (List Stp × Nat)→St→(St→Prop)→Prop
 |[],st,K=>stp st K
 |(g,_)::r,st,K=>grpG G all (hasT g) st g st λst=>grpsG G all r st K
theorem optT_good {G:Gl} {hs:List HP} {all:List Oper} {o:Oper} {F:St→Prop} (hF:Good F):Good λst=>opsG (opT G hs) G all [o] st F:=by
 intro st h
 unfold opsG at h
 have e:∀ st,opsG (opT G hs) G all [] st F=F st:=λst=>rfl
 simp only [e] at h
 split at h
 ·exact (opT_sound h hF).1
 ·rename_i j want hg
  split at h
  ·split at h
   ·split at h
    ·split at h
     ·exact (opT_sound h hF).1
     ·exact (putK_same h hF).1.1
    ·rename_i b hx
     by_cases hb:b=want
     ·exact (opT_sound (h.1 hb) hF).1
     ·exact (putK_same (h.2 (by cases b<;>cases want<;>simp_all)) hF).1.1
    ·exact (putK_same h hF).1.1
    ·exact h.elim
   ·exact h.elim
  ·exact h.elim
theorem takeG {G:Gl} {hs:List HP} {all:List Oper} {o:Oper} {st:St} {F:St→Prop} (h:opsG (opT G hs) G all [o] st F) (hF:Good F) {ρ:List Nat} {a:Act} {w0:World} (m:Tm G st ρ a) (mm:Mem G { st with h:=hs } ρ w0) :
  ∃ v st',F st'∧SameM st st'∧Tm G st' ρ (a.put o.dst v)∧YieldsIf G.P all.toArray (Mem G { st with h:=hs } ρ) o v a:=by
 unfold opsG at h
 have e:∀ st,opsG (opT G hs) G all [] st F=F st:=λst=>rfl
 simp only [e] at h
 have yes:∀ st1:St,SameM st st1→Tm G st1 ρ a→opT G hs o st1 F→Region.wanted o (yielded all.toArray a.tmps)=true→∃ v st',F st'∧SameM st st'∧Tm G st' ρ (a.put o.dst v)∧YieldsIf G.P all.toArray (Mem G { st with h:=hs } ρ) o v a:=by
  intro st1 s1 m1 h hwt
  obtain ⟨_,hq⟩:=opT_sound h hF
  have sx:SameM { st with h:=hs } { st1 with h:=hs }:=⟨s1.1,s1.2.1,rfl⟩
  obtain ⟨v,st',k',s2,hr',m'⟩:=hq ρ a w0 m1 (sx.mem.2 mm)
  exact ⟨v,st',k',⟨s2.1.trans s1.1,s2.2.1.trans s1.2.1,s2.2.2.trans s1.2.2⟩,m',.inl ⟨hwt,λw hw=>hr' w (sx.mem.2 hw)⟩⟩
 have no:∀ st1:St,SameM st st1→Tm G st1 ρ a→putK G st1 o.dst (.v undef) none F→Region.wanted o (yielded all.toArray a.tmps)=false→∃ v st',F st'∧SameM st st'∧Tm G st' ρ (a.put o.dst v)∧YieldsIf G.P all.toArray (Mem G { st with h:=hs } ρ) o v a:=by
  intro st1 s1 m1 h hwt
  obtain ⟨_,hp⟩:=putK_same h hF
  obtain ⟨st',k',s2,m'⟩:=hp ρ a undef rfl m1
  exact ⟨undef,st',k',⟨s2.1.trans s1.1,s2.2.1.trans s1.2.1,s2.2.2.trans s1.2.2⟩,m',.inr ⟨hwt,rfl⟩⟩
 split at h
 ·rename_i hg
  exact yes st ⟨rfl,rfl,rfl⟩ m h (wanted_none hg _)
 ·rename_i j want hg
  split at h
  ·rename_i oj hj
   split at h
   ·rename_i t ht
    split at h
    ·rename_i b hx
     split at h
     ·rename_i hb
      exact yes st ⟨rfl,rfl,rfl⟩ m h (by rw [wanted_eq hg hj ht hx rfl m,hb])
     ·rename_i hb
      exact no st ⟨rfl,rfl,rfl⟩ m h (by rw [wanted_eq hg hj ht hx rfl m,hb])
    ·rename_i b hx
     by_cases hb:b=want
     ·subst hb
      exact yes (seen st t b) ⟨rfl,rfl,rfl⟩ (seen_tm m hx) (h.1 rfl) (by rw [wanted_eq hg hj ht hx rfl m];simp)
     ·have hb':b=!want:=by cases b<;>cases want<;>simp_all
      subst hb'
      exact no (seen st t (!want)) ⟨rfl,rfl,rfl⟩ (seen_tm m hx) (h.2 rfl) (by rw [wanted_eq hg hj ht hx rfl m];simp)
    ·rename_i hx
     exact no st ⟨rfl,rfl,rfl⟩ m h (wanted_undef hg hj ht hx m)
    ·exact h.elim
   ·exact h.elim
  ·exact h.elim
theorem opG_good {G:Gl} {all:List Oper} {o:Oper} {F:St→Prop} {st:St} (h:opsG (op1 G) G all [o] st F) (hF:Good F):st.c:=(ops_sound (λh hK=>op1_sound h hK) h hF).1
theorem guarded_op {G:Gl} {all:List Oper} {o:Oper} {st:St} {F:St→Prop} (h:opsG (op1 G) G all [o] st F) (hF:Good F) {Q:Exit→Act→World→Prop} (hx:∀ e a w,PXE G e a w→Q e a w) {k:Nat} (ho2:all.toArray[k]? = some o) {ρ:List Nat} {a:Act} {w:World} (m:Tm G st ρ a) (mm:Mem G st ρ w) :
  wpOp G.P all.toArray Q k (λa' w'=>∃ st' ρ',F st'∧Tm G st' ρ' a'∧Mem G st' ρ' w'∧Ext ρ ρ') a w:=by
 unfold opsG at h
 have e:∀ st,opsG (op1 G) G all [] st F=F st:=λst=>rfl
 simp only [e] at h
 have yes:∀ st1:St,SameM st st1→Tm G st1 ρ a→op1 G o st1 F→Region.wanted o (yielded all.toArray a.tmps)=true→wpOp G.P all.toArray Q k (λa' w'=>∃ st' ρ',F st'∧Tm G st' ρ' a'∧Mem G st' ρ' w'∧Ext ρ ρ') a w:=by
  intro st1 s1 m1 h hwt
  unfold wpOp
  simp only [ho2]
  rw [if_pos hwt]
  exact .inl ((op1_soundX h hF).2 ρ a w Q hx m1 (s1.mem.2 mm))
 have no:∀ st1:St,SameM st st1→Tm G st1 ρ a→putK G st1 o.dst (.v undef) none F→Region.wanted o (yielded all.toArray a.tmps)=false→wpOp G.P all.toArray Q k (λa' w'=>∃ st' ρ',F st'∧Tm G st' ρ' a'∧Mem G st' ρ' w'∧Ext ρ ρ') a w:=by
  intro st1 s1 m1 h hwt
  obtain ⟨_,hp⟩:=putK_same h hF
  obtain ⟨st',k',s2,m'⟩:=hp ρ a undef rfl m1
  unfold wpOp
  simp only [ho2]
  rw [if_neg (by rw [hwt];decide)]
  exact ⟨st',ρ,k',m',s2.mem.2 (s1.mem.2 mm),Ext.refl _⟩
 split at h
 ·rename_i hg
  exact yes st ⟨rfl,rfl,rfl⟩ m h (wanted_none hg _)
 ·rename_i j want hg
  split at h
  ·rename_i oj hj
   split at h
   ·rename_i t ht
    split at h
    ·rename_i b hx'
     split at h
     ·rename_i hb
      exact yes st ⟨rfl,rfl,rfl⟩ m h (by rw [wanted_eq hg hj ht hx' rfl m,hb])
     ·rename_i hb
      exact no st ⟨rfl,rfl,rfl⟩ m h (by rw [wanted_eq hg hj ht hx' rfl m,hb])
    ·rename_i b hx'
     by_cases hb:b=want
     ·subst hb
      exact yes (seen st t b) ⟨rfl,rfl,rfl⟩ (seen_tm m hx') (h.1 rfl) (by rw [wanted_eq hg hj ht hx' rfl m];simp)
     ·have hb':b=!want:=by cases b<;>cases want<;>simp_all
      subst hb'
      exact no (seen st t (!want)) ⟨rfl,rfl,rfl⟩ (seen_tm m hx') (h.2 rfl) (by rw [wanted_eq hg hj ht hx' rfl m];simp)
    ·rename_i hx'
     exact no st ⟨rfl,rfl,rfl⟩ m h (wanted_undef hg hj ht hx' m)
    ·exact h.elim
   ·exact h.elim
  ·exact h.elim
theorem grpG_good {G:Gl} {all:List Oper} {kp:Bool} {st0:St} {K:St→Prop} (hK:Good K):∀ g:List Stp,Good λst=>grpG G all kp st0 g st K
 |[]=>hK
 |.T k::r=>λst h=>by
  unfold grpG at h
  split at h
  ·split at h
   ·exact optT_good (grpG_good hK r) _ h
   ·exact h.elim
  ·exact h.elim
 |.H k::r=>λst h=>by
  unfold grpG at h
  split at h
  ·refine opG_good h λst h=>?_
   split at h
   ·exact (stp_iff.1 h).1
   ·exact grpG_good hK r _ h
  ·exact h.elim
theorem grpsG_good {G:Gl} {all:List Oper} {K:St→Prop}:∀ gs:List (List Stp × Nat),Good λst=>grpsG G all gs st K
 |[]=>good_stp
 |(g,n)::r=>λst h=>grpG_good (grpsG_good r) g _ h
theorem grp_sound {G:Gl} {all:List Oper} {Q:Exit→Act→World→Prop} {F:Array Bool→Bool} {K:St→Prop} {n:Nat} {kp:Bool} {st0:St} {ρ0:List Nat} (hx:∀ e a w,PXE G e a w→Q e a w) (hsel:Region.noSelect all.toArray=true) (hQ:∀ o∈all,∀ v c a w,Q (.panic c) (Act.put a o.dst v) w→Q (.panic c) a w) (hn:wallB all.toArray n) (hK:Good K) :
  ∀ (g:List Stp) (ls:Array Bool) (st:St) (ρ:List Nat) (a:Act) (w:World),HeadInv .any all.toArray n ls→stepsB all.toArray n F g ls=true→grpG G all kp st0 g st K→Tm G st ρ a→Mem G st ρ w→(kp=true→ρ=ρ0∧st.o=st0.o∧st.n=st0.n∧Mem G st0 ρ0 w) →
   HdG G.P all.toArray Q (λw=>kp=true→Mem G st0 ρ0 w) n (λls a w=>(F ls=true∧(Region.ready .any all.toArray ls).all (λj=>decide (n≤j))=true)∧∃ st ρ,K st∧Tm G st ρ a∧Mem G st ρ w) g.length ls a w
 |[],ls,st,ρ,a,w,inv,hB,h,m,mm,hk=>by
  simp only [stepsB,Bool.and_eq_true] at hB
  exact ⟨hB,st,ρ,h,m,mm⟩
 |.T k::r,ls,st,ρ,a,w,inv,hB,h,m,mm,hk=>by
  simp only [stepsB,Bool.and_eq_true,decide_eq_true_eq] at hB
  obtain ⟨hkn,hr,hf,hB⟩:=hB
  unfold grpG at h
  split at h
  ·rename_i hkp
   obtain ⟨rfl,ho,hnn,mm0⟩:=hk rfl
   split at h
   ·rename_i o ho'
    have ho2:all.toArray[k]? = some o:=by simpa using ho'
    have hr':k∈Region.ready .any all.toArray ls:=by simpa using hr
    have sx:SameM st0 { st with h:=st0.h }:=⟨ho,hnn,rfl⟩
    obtain ⟨v,st',k',s',m',hy⟩:=takeG h (grpG_good hK r) m (sx.mem.2 mm0)
    have hy':YieldsIf G.P all.toArray (λw=>true=true→Mem G st0 ρ w) o v a:=by
     rcases hy with ⟨h1,h2⟩|h
     ·exact .inl ⟨h1,λw hw=>h2 w (sx.mem.2 (hw rfl))⟩
     ·exact .inr h
    refine HdG.take ho2 hsel hn hkn (λc a w=>hQ _ (List.mem_of_getElem? ho') _ c a w) (λls a w hL j hj=>?_) r.length ls a w inv (Region.free_spec ho2 hf) hr' hy' (λ_=>mm0) ?_
    ·have:=List.all_eq_true.1 hL.1.2 j hj
     simpa using this
    ·exact grp_sound hx hsel hQ hn hK r _ st' ρ _ w (inv.set hr' hkn) hB k' m' (s'.mem.2 mm) λ_=>⟨rfl,s'.1.trans ho,s'.2.1.trans hnn,mm0⟩
   ·exact h.elim
  ·exact h.elim
 |.H k::r,ls,st,ρ,a,w,inv,hB,h,m,mm,hk=>by
  simp only [stepsB,Bool.and_eq_true,decide_eq_true_eq] at hB
  obtain ⟨hkn,hr,hB⟩:=hB
  unfold grpG at h
  split at h
  ·rename_i o ho'
   have ho2:all.toArray[k]? = some o:=by simpa using ho'
   have hr':k∈Region.ready .any all.toArray ls:=by rw [hr];simp
   refine ⟨List.ne_nil_of_mem hr',λi hi=>?_⟩
   rw [hr] at hi
   have hik:i=k:=by simpa using hi
   subst hik
   refine ⟨hkn,?_⟩
   cases kp with
   |true =>
    have h:opsG (op1 G) G all [o] st λst=>stp st λst=>Kept G st0 st∧grpG G all true st0 r st K:=h
    refine wpOp_mono (λa' w' ⟨st',ρ',k',m',mm',ex'⟩=>?_) (guarded_op h good_stp hx ho2 m mm)
    obtain ⟨_,hkeep,k'⟩:=stp_iff.1 k'
    obtain ⟨rfl,ho,hnn,mm0⟩:=hk rfl
    obtain ⟨⟨e1,e2⟩,e3⟩:=hkeep
    have hρ:ρ'=ρ:=by
     obtain ⟨q,rfl⟩:=ex'
     have l1:=mm'.len
     have l2:=mm0.len
     simp only at e2
     have:q=[]:=by
      apply List.eq_nil_of_length_eq_zero
      simp only [List.length_append] at l1
      omega
     rw [this];simp
    subst hρ
    have mm2:Mem G st0 ρ' w':=by
     obtain ⟨m1,m2,m3,m4,m5,m6,mk,hh,m7,m8,m9⟩:=mm'
     simp only at e1 e2
     obtain ⟨h',s1,s2⟩:=e3 hh m8
     refine ⟨m1,by rw [← e2];exact m2,m3,m4,by rw [← e1];exact m5,by rw [← e1];exact m6,mk,h',m7.mono s1,s2,λx hx b hb=>?_⟩
     have:=m9 x (by rw [e1];exact hx) b hb
     cases e':h' b with
     |none=>rfl
     |some ob=>rw [s1 b ob e'] at this;cases this
    exact ⟨λ_=>mm2,grp_sound hx hsel hQ hn hK r _ _ ρ' a' w' (inv.set hr' hkn) hB k' (m'.same rfl) (mm'.same rfl rfl rfl) λ_=>⟨rfl,e1,e2,mm2⟩⟩
   |false =>
    have h:opsG (op1 G) G all [o] st λst=>grpG G all false st0 r st K:=h
    refine wpOp_mono (λa' w' ⟨st',ρ',k',m',mm',ex'⟩=>?_) (guarded_op h (grpG_good hK r) hx ho2 m mm)
    have key:=grp_sound (kp:=false) (st0:=st0) (ρ0:=ρ0) hx hsel hQ hn hK r _ st' ρ' a' w' (inv.set hr' hkn) hB k' m' mm' (λc=>by cases c)
    exact ⟨(λc=>by cases c),key⟩
  ·exact h.elim
theorem grps_sound {G:Gl} {all:List Oper} {Q:Exit→Act→World→Prop} {K:St→Prop} (hx:∀ e a w,PXE G e a w→Q e a w) (hsel:Region.noSelect all.toArray=true) (hQ:∀ o∈all,∀ v c a w,Q (.panic c) (Act.put a o.dst v) w→Q (.panic c) a w) (hend:∀ st ρ a w,K st→Tm G st ρ a→Mem G st ρ w→Q .normal a w) :
  ∀ (gs:List (List Stp × Nat)) (ls:Array Bool) (st:St) (ρ:List Nat) (a:Act) (w:World),grpsB all.toArray gs ls=true→grpsG G all gs st K→Tm G st ρ a→Mem G st ρ w→wpAny G.P .any all.toArray Q (grpLen gs) ls a w
 |[],ls,st,ρ,a,w,hB,h,m,mm=>by
  simp only [grpsB,decide_eq_true_eq] at hB
  exact ⟨hB,hend { st with c:=True } ρ a w (stp_iff.1 h).2 (m.same rfl) (mm.same rfl rfl rfl)⟩
 |(g,n)::r,ls,st,ρ,a,w,hB,h,m,mm=>by
  simp only [grpsB,Bool.and_eq_true,Bool.or_eq_true,decide_eq_true_eq] at hB
  obtain ⟨hw,hh,hs⟩:=hB
  have key:=grp_sound (F:=λls'=>grpsB all.toArray r ls') (kp:=hasT g) (st0:=st) (ρ0:=ρ) hx hsel hQ hw (grpsG_good r) g ls st ρ a w (headW_spec hh) hs h m mm λ_=>⟨rfl,rfl,rfl,mm⟩
  exact HdG.any (g:=grpLen r) (λls' a' w' ⟨⟨hF,_⟩,st',ρ',k,m',mm'⟩=>grps_sound hx hsel hQ hend r ls' st' ρ' a' w' hF k m' mm') _ _ _ _ key
theorem RegAt.groups {G:Gl} {id:Nat} {l:List Oper} {st:St} {K:St→Prop} (gs:List (List Stp × Nat)) (hm:G.P.follows .mixedOrders=true) (hB:groupsB l gs=true) (h:grpsG G l gs st K) (hax:axFree G.AX l=true:=by rfl):RegAt G id l.toArray st K:=by
 simp only [groupsB,Bool.and_eq_true,decide_eq_true_eq] at hB
 obtain ⟨h1,h2,h3⟩:=hB
 refine .mk λρ a w m mm=>?_
 refine wp_region_any hm ?_
 have key:=grps_sound (Q:=λe a' w'=>(e=.normal∧∃ st' ρ',K st'∧Tm G st' ρ' a'∧Mem G st' ρ' w')∨PXE G e a' w') (λe a w hp=>.inr hp) h1 (λo ho v c a w hq=>by rcases hq with ⟨hq,_⟩|hq;cases hq;exact .inr (hq.put (axFree_spec hax o ho))) (λst ρ a w k m mm=>.inl ⟨rfl,st,ρ,k,m,mm⟩) gs _ st ρ a _ h3 h m mm.drew
 rw [h2] at key
 simpa using key
end Sy
namespace Sy
set_option linter.unusedVariables false
set_option linter.unusedSimpArgs false
theorem OpAt.val {G:Gl} {o:Oper} {st:St} {K:St→Prop} (v:Value) (hsel:notSel o.op=true) (hr:allR st o.op.operands.toList=true) (hrun:∀ w,Sat (sepL st.h G.R) w→(execOp (evR st) o).run G.P w=.ok (.value v) w) (k:putK G st o.dst (.v v) none K):OpAt G o st K:=by
 refine .mk λρ a w m mm=>?_
 have hc:execOp a.eval o=execOp (evR st) o:=execOp_congr o (λcs b=>notSel_spec hsel cs b) λx hx=>allR_sound m hr x (by simpa using hx)
 obtain ⟨st',k',m',mm2⟩:=putK_go k (ρ:=ρ) (v:=v) rfl m mm
 unfold Oper.wp
 rw [hc,hrun w mm.sat]
 exact ⟨st',ρ,k',m',mm2,Ext.refl _⟩
theorem LoadAt.agg {G:Gl} {st:St} {K:SV→Prop} {t:TypeId} {b off:Nat} {d:TypeDesc} (vs:List Value) (hu:G.P.underlying t=some d) (hd:d.isRow=true) (hi:(G.P.info? t).map (·.size)=some vs.length)
  (h:∀ w,Sat (sepL st.h G.R) w→∀ (j:Nat) (v:Value),vs[j]? = some v→w.cell? ⟨b,off+j,none⟩=some v) (k:K (.v (.agg vs.toArray))):LoadAt G t ⟨b,off,none⟩ st K :=
 .mk _ (λρ w m=>run_loadAt_mid w b off t vs d (λj v hv=>h w m.sat j v hv) hu hd hi) k
def putL (xs:List Value) (off:Nat) (ys:List Value):List Value:=xs.take off++ys++xs.drop (off+ys.length)
theorem putL_len {xs ys:List Value} {off:Nat} (h:off+ys.length≤xs.length):(putL xs off ys).length=xs.length:=by simp [putL];omega
theorem putL_get {xs ys:List Value} {off:Nat} (h:off+ys.length≤xs.length) (k:Nat):(putL xs off ys)[k]? = if off≤k∧k < off+ys.length then ys[k - off]? else xs[k]?:=by
 unfold putL
 by_cases c:k < off
 ·rw [List.append_assoc,List.getElem?_append_left (by simp;omega),List.getElem?_take_of_lt c,if_neg (by omega)]
 ·by_cases c2:k < off+ys.length
  ·rw [List.append_assoc,List.getElem?_append_right (by simp;omega),List.getElem?_append_left (by simp;omega),if_pos ⟨by omega,c2⟩]
   congr 1
   simp;omega
  ·rw [List.getElem?_append_right (by simp;omega),List.getElem?_drop,if_neg (by omega)]
   congr 1
   simp;omega
theorem OpAt.store {G:Gl} {o:Oper} {st:St} {K:St→Prop} {t:TypeId} {x y:Operand} {A A':HP} {i:TypeInfo} (b off:Nat) (v:Value) (rest:List HP) (ho:o.op=.store t x y) (hp:∀ h,sepL st.h G.R h→sepL (A::rest) G.R h) (hx:evR st x=.pointer (some ⟨b,off,none⟩)) (hy:evR st y=v)
  (hr:allR st o.op.operands.toList=true) (hi:G.P.info? t=some i) (hsz:v.cells.size=i.size) (h1:∀ u∈v.cells.toList,u.oneCell'=true)
  (hA:∀ h,A h→∃ ty cs,h b=some (.cells cs ty (0,0))∧off+v.cells.size≤cs.size∧A' λj=>if j=b then some (.cells (putL cs.toList off v.cells.toList).toArray ty (0,0)) else h j)
  (k:putK G { st with h:=A'::rest } o.dst (.v undef) none K):OpAt G o st K:=by
 refine .mk λρ a w m mm=>?_
 obtain ⟨h,s1,s2,d0,s3⟩:=mem_split mm
 obtain ⟨g1,g2,d,rfl,a1,a2⟩:=hp h s2
 obtain ⟨ty,cs,hb,hoff,hA'⟩:=hA g1 a1
 have hc:execOp a.eval o=execOp (evR st) o:=execOp_congr o (λcs b=>notSel_spec (by rw [ho];rfl) cs b) λx hx=>allR_sound m hr x (by simpa using hx)
 have hwb:w.heap[b]? = some (.cells cs ty (0,0)):=s1.left b _ hb
 have hg2:g2 b=none:=by
  rcases d b with e|e
  ·rw [hb] at e;cases e
  ·exact e
 have hob:obj st ρ w b=none:=by
  rcases d0 b with e|e
  ·exact e
  ·unfold un at e;rw [hb] at e;cases e
 have hrun:=run_storeCells_at (P:=G.P) b off ty v.cells.toList 0 cs w hwb (by simp;omega) h1
 simp only [Nat.add_zero] at hrun
 have hrun':(execOp (evR st) o).run G.P w=.ok .skip (w.setRow b (putL cs.toList off v.cells.toList).toArray):=by
  simp only [execOp,ho,hx,hy,Instr.storeAt,Instr.sureAddr,storeVar,sizeOf,typeInfo,Sem.run_bind,Sem.run_pure,Result.andThen_ok]
  simp [hi,hsz,hrun,putL]
 generalize hW:w.setRow b (putL cs.toList off v.cells.toList).toArray=w' at hrun'
 have hh:w'.heap[b]? = some (.cells (putL cs.toList off v.cells.toList).toArray ty (0,0)):=by rw [← hW];exact setRow_heap w b cs _ ty (0,0) hwb
 have hne:∀ j,j≠b→w'.heap[j]? = w.heap[j]?:=λj hj=>by
  rw [← hW]
  simp only [World.setRow,Array.getElem?_modify]
  rw [if_neg (λe=>hj e.symm)]
 have hwd:Wd w w':=by
  rw [← hW]
  exact ⟨rfl,rfl,rfl,by simp [World.setRow]⟩
 have old:∀ {g:Hl},g b=none→Sub g w→Sub g w':=λ{g} hgb s j ob e=>by
  have:j≠b:=λc=>by subst c;rw [hgb] at e;cases e
  rw [hne j this];exact s j ob e
 generalize hq:(λj=>if j=b then some (Obj.cells (putL cs.toList off v.cells.toList).toArray ty (0,0)) else g1 j)=g1' at hA'
 have dom:∀ j,g1' j=none↔g1 j=none:=λj=>by
  rw [← hq]
  simp only
  by_cases c:j=b
  ·subst c;simp [hb]
  ·simp [c]
 have sub1:Sub g1' w':=λj ob e=>by
  rw [← hq] at e
  simp only at e
  by_cases c:j=b
  ·subst c;rw [if_pos rfl] at e;rw [← e];exact hh
  ·rw [if_neg c] at e;rw [hne j c];exact s1.left j ob e
 have mm':Mem G { st with h:=A'::rest } ρ w':=by
  refine mem_join (g:=un (obj st ρ w) (un g1' g2)) mm hwd ((old hob s3).un (sub1.un (old hg2 (s1.right d)))) ⟨un g1' g2,λj=>?_,rfl,g1',g2,λj=>?_,rfl,hA',a2⟩
  ·rcases d0 j with e|e
   ·exact .inl e
   ·exact .inr (un_none.2 ⟨(dom j).2 (un_none.1 e).1,(un_none.1 e).2⟩)
  ·rcases d j with e|e
   ·exact .inl ((dom j).2 e)
   ·exact .inr e
 obtain ⟨st',k',m',mm2⟩:=putK_go k (ρ:=ρ) (v:=undef) rfl (m.same rfl) mm'
 unfold Oper.wp
 rw [hc,hrun']
 exact ⟨st',ρ,k',m',mm2,Ext.refl _⟩
theorem row_put {g n cap size off:Nat} {e:TypeId} {xs ys:List Value} (h:off+ys.length≤n * size) {hl:Hl} (r:rowH (.slice (some ⟨g,0,none⟩) n cap) n e size xs hl) :
  ∃ ty cs,hl g=some (.cells cs ty (0,0))∧off+ys.length≤cs.size∧rowH (.slice (some ⟨g,0,none⟩) n cap) n e size (putL xs off ys) λj=>if j=g then some (.cells (putL cs.toList off ys).toArray ty (0,0)) else hl j:=by
 obtain ⟨hx,r⟩:=r
 rcases r with ⟨c,_⟩|⟨g',cap',cur,h1,h2,h3,h4,h5,h6⟩
 ·cases c
 injection h1 with e1 e2 e3
 injection e1 with e1
 injection e1 with e1
 subst e1 e3
 have hcur:n * size≤cur.size:=by rw [h5];exact Nat.mul_le_mul_right _ h3
 refine ⟨e,cur,by rw [h2];simp,by omega,by rw [putL_len (by omega)];exact hx,.inr ⟨g,cap,(putL cur.toList off ys).toArray,rfl,λj=>?_,h3,h4,?_,?_⟩⟩
 ·by_cases c:j=g
  ·subst c;simp
  ·simp [c,h2]
 ·simp only [List.size_toArray]
  rw [putL_len (by simp;omega)]
  simpa using h5
 ·apply List.ext_getElem?
  intro k
  simp only [List.toList_toArray]
  rw [List.getElem?_take]
  by_cases c:k < n * size
  ·rw [if_pos c,putL_get (by simp;omega),putL_get (by omega)]
   split
   ·rfl
   ·rw [← h6,List.getElem?_take_of_lt c]
  ·rw [if_neg c,List.getElem?_eq_none]
   rw [putL_len (by omega)];omega
theorem OpAt.make {G:Gl} {o:Oper} {st:St} {K:St→Prop} {t e:TypeId} {x y:Operand} {i:TypeInfo} {z:Value} (n size:Nat) (zs:List Value) (ho:o.op=.makeSlice t x y) (hx:evR st x=.int .i64 (n:Int)) (hy:evR st y=.int .i64 (n:Int)) (hr:allR st o.op.operands.toList=true)
  (hu:G.P.underlying t=some (.slice e)) (hi:G.P.info? e=some i) (hz:i.zero=some z) (hsize:i.size=size) (hzs:(madeCells z.cells (n * size)).toList=zs) (hby:i.bytes * n≤281474976710656) (hmax:n≤maxLen)
  (k:∀ g,putK G { st with h:=rowH (.slice (some ⟨g,0,none⟩) n n) n e size zs::st.h } o.dst (.v (.slice (some ⟨g,0,none⟩) n n)) none K):OpAt G o st K:=by
 refine OpAt.sem (pre:=[]) (post:=λv hs=>∃ g,v=.slice (some ⟨g,0,none⟩) n n∧hs=[rowH (.slice (some ⟨g,0,none⟩) n n) n e size zs]) st.h (λh s=>s) (by rw [ho];rfl) hr ?_ ?_
 ·intro R' _ w s
  have hm:=hmax
  simp only [maxLen] at hm
  have hrun:=run_make w t e i z hu hi hz .i64 .i64 (n:Int) (n:Int) (by omega) (by omega) (by rw [← Int.natCast_mul];omega) (by omega) (P:=G.P)
  simp only [Int.toNat_natCast,hsize] at hrun
  have hlen:zs.length=n * size:=by rw [← hzs];simp [size_madeCells]
  refine ⟨_,_,w.alloc (.cells (madeCells z.cells (n * size)) e),?_,⟨w.heap.size,rfl,rfl⟩,?_,.of_below ((Below.refl _ _).alloc (Nat.le_refl _) _)⟩
  ·simp only [execOp,ho,hx,hy,hrun,Sem.run_bind,Result.andThen_ok,Sem.run_pure,Sem.run_map]
   try rfl
  ·refine sat_row s ((Below.refl _ _).alloc (Nat.le_refl _) _) ⟨hlen,.inr ⟨_,n,madeCells z.cells (n * size),rfl,Nat.le_refl _,heap_alloc_new w _,Nat.le_refl _,hmax,size_madeCells _ _,?_⟩⟩
   rw [hzs,List.take_of_length_le (by omega)]
 ·rintro v hs ⟨g,rfl,rfl⟩
  exact k g
theorem made_const {z:Array Value} {v:Value} (h:∀ i,i < z.size→z[i]! = v) (h0:0 < z.size) (n:Nat):(madeCells z n).toList=List.replicate n v:=by
 apply List.ext_getElem?
 intro k
 simp only [madeCells,Array.toList_map,Array.toList_range,List.getElem?_map]
 rw [List.getElem?_replicate]
 by_cases c:k < n
 ·rw [if_pos c,List.getElem?_range c]
  simp [h _ (Nat.mod_lt _ h0)]
 ·rw [if_neg c,List.getElem?_eq_none (by simp;omega)]
  rfl
def was (w:World):HP:=λg=>g=λi=>w.heap[i]?
theorem was_ext {w w':World} (s:Sat (was w) w') {i:Nat} {o:Obj} (h:w.heap[i]? = some o):w'.heap[i]? = some o:=by
 obtain ⟨g,g1,rfl⟩:=s
 exact g1 i o h
end Sy
namespace Sy
set_option linter.unusedVariables false
set_option linter.unusedSimpArgs false
theorem sub_nil {R:HP}:∀ {l:List HP} {h:Hl},sepL l R h→∃ h':Hl,(∀ i o,h' i=some o→h i=some o)∧sepL [] R h'
 |[],h,s=>⟨h,λ_ _ e=>e,s⟩
 |A::l,h,s=>by
  obtain ⟨h1,e1,s1⟩:=sub_tail s
  obtain ⟨h2,e2,s2⟩:=sub_nil s1
  exact ⟨h2,λi o e=>e1 i o (e2 i o e),s2⟩
def grpsG0 (G:Gl) (all:List Oper):List (List Stp × Nat)→St→(St→Prop)→Prop
 |[],st,K=>stp st K
 |(g,_)::r,st,K=>grpG G all (hasT g) { st with h:=[] } g st λst=>grpsG0 G all r st K
theorem grpsG0_good {G:Gl} {all:List Oper} {K:St→Prop}:∀ gs:List (List Stp × Nat),Good λst=>grpsG0 G all gs st K
 |[]=>good_stp
 |(g,n)::r=>λst h=>grpG_good (grpsG0_good r) g _ h
theorem mem_nil {G:Gl} {st:St} {ρ:List Nat} {w:World} (m:Mem G st ρ w):Mem G { st with h:=[] } ρ w:=by
 obtain ⟨m1,m2,m3,m4,m5,m6,mk,hh,m7,m8,m9⟩:=m
 obtain ⟨h',e,s⟩:=sub_nil m8
 refine ⟨m1,m2,m3,m4,m5,m6,mk,h',m7.mono e,s,λx hx b hb=>?_⟩
 have:=m9 x hx b hb
 cases c:h' b with
 |none=>rfl
 |some o=>rw [e b o c] at this;cases this
theorem grps0_sound {G:Gl} {all:List Oper} {Q:Exit→Act→World→Prop} {K:St→Prop} (hx:∀ e a w,PXE G e a w→Q e a w) (hsel:Region.noSelect all.toArray=true) (hQ:∀ o∈all,∀ v c a w,Q (.panic c) (Act.put a o.dst v) w→Q (.panic c) a w) (hend:∀ st ρ a w,K st→Tm G st ρ a→Mem G st ρ w→Q .normal a w) :
  ∀ (gs:List (List Stp × Nat)) (ls:Array Bool) (st:St) (ρ:List Nat) (a:Act) (w:World),grpsB all.toArray gs ls=true→grpsG0 G all gs st K→Tm G st ρ a→Mem G st ρ w→wpAny G.P .any all.toArray Q (grpLen gs) ls a w
 |[],ls,st,ρ,a,w,hB,h,m,mm=>by
  simp only [grpsB,decide_eq_true_eq] at hB
  exact ⟨hB,hend { st with c:=True } ρ a w (stp_iff.1 h).2 (m.same rfl) (mm.same rfl rfl rfl)⟩
 |(g,n)::r,ls,st,ρ,a,w,hB,h,m,mm=>by
  simp only [grpsB,Bool.and_eq_true,Bool.or_eq_true,decide_eq_true_eq] at hB
  obtain ⟨hw,hh,hs⟩:=hB
  have key:=grp_sound (F:=λls'=>grpsB all.toArray r ls') (kp:=hasT g) (st0:={ st with h:=[] }) (ρ0:=ρ) hx hsel hQ hw (grpsG0_good r) g ls st ρ a w (headW_spec hh) hs h m mm λ_=>⟨rfl,rfl,rfl,mem_nil mm⟩
  exact HdG.any (g:=grpLen r) (λls' a' w' ⟨⟨hF,_⟩,st',ρ',k,m',mm'⟩=>grps0_sound hx hsel hQ hend r ls' st' ρ' a' w' hF k m' mm') _ _ _ _ key
theorem RegAt.groups0 {G:Gl} {id:Nat} {l:List Oper} {st:St} {K:St→Prop} (gs:List (List Stp × Nat)) (hm:G.P.follows .mixedOrders=true) (hB:groupsB l gs=true) (h:grpsG0 G l gs st K) (hax:axFree G.AX l=true:=by rfl):RegAt G id l.toArray st K:=by
 simp only [groupsB,Bool.and_eq_true,decide_eq_true_eq] at hB
 obtain ⟨h1,h2,h3⟩:=hB
 refine .mk λρ a w m mm=>?_
 refine wp_region_any hm ?_
 have key:=grps0_sound (Q:=λe a' w'=>(e=.normal∧∃ st' ρ',K st'∧Tm G st' ρ' a'∧Mem G st' ρ' w')∨PXE G e a' w') (λe a w hp=>.inr hp) h1 (λo ho v c a w hq=>by rcases hq with ⟨hq,_⟩|hq;cases hq;exact .inr (hq.put (axFree_spec hax o ho))) (λst ρ a w k m mm=>.inl ⟨rfl,st,ρ,k,m,mm⟩) gs _ st ρ a _ h3 h m mm.drew
 rw [h2] at key
 simpa using key
def emp:HP:=λh=>∀ i,h i=none
theorem emp_un {h g:Hl} (e:∀ i,h i=none):un h g=g:=by funext i;simp [un,e i]
theorem sepL_emp {R:HP}:∀ {l:List HP} {h1 h2:Hl},sepL l emp h1→Dj h1 h2→R h2→sepL l R (un h1 h2)
 |[],h1,h2,e,_,r=>by rw [emp_un e];exact r
 |A::l,h1,h2,s,d,r=>by
  obtain ⟨a1,a2,d',rfl,a,s⟩:=s
  obtain ⟨d1,d2⟩:=d.un_left
  exact ⟨a1,un a2 h2,(Dj.un_of d'.symm d1.symm).symm,un_assoc _ _ _,a,sepL_emp s d2 r⟩
theorem emp_sepL {R:HP}:∀ {l:List HP} {h:Hl},sepL l R h→sep (sepL l emp) R h
 |[],h,r=>⟨λ_=>none,h,λ_=>.inl rfl,by rw [emp_un (λ_=>rfl)],λ_=>rfl,r⟩
 |A::l,h,s=>by
  obtain ⟨h1,h2,d,rfl,a,s⟩:=s
  obtain ⟨g1,g2,d2,rfl,s1,s2⟩:=emp_sepL s
  obtain ⟨d3,d4⟩:=d.symm.un_left
  exact ⟨un h1 g1,g2,Dj.un_of d4.symm d2,by rw [un_assoc],⟨h1,g1,d3.symm,rfl,a,s1⟩,s2⟩
def boxH {α:Type} (parts:α→List HP):HP:=λh=>∃ x,sepL (parts x) emp h
theorem boxH_open {α:Type} {parts:α→List HP} {l:List HP} {R:HP} {h:Hl} (s:sepL (boxH parts::l) R h):∃ x,sepL (parts x++l) R h:=by
 obtain ⟨h1,h2,d,rfl,⟨x,a⟩,s⟩:=s
 refine ⟨x,?_⟩
 rw [sepL_append]
 exact sepL_emp a d s
theorem boxH_shut {α:Type} {parts:α→List HP} (x:α) {l:List HP} {R:HP} {h:Hl} (s:sepL (parts x++l) R h):sepL (boxH parts::l) R h:=by
 rw [sepL_append] at s
 obtain ⟨h1,h2,d,rfl,a,s⟩:=emp_sepL s
 exact ⟨h1,h2,d,rfl,⟨x,a⟩,s⟩
theorem FnR.unbox {α:Type} {parts:α→List HP} {P:Program} {R:HP} {f:FuncId} {args:List Value} {l:List HP} {post:Value→List HP→Prop} (h:∀ x,FnR P R f args (parts x++l) post):FnR P R f args (boxH parts::l) post:=by
 rintro w ⟨g,g1,s⟩
 obtain ⟨x,s⟩:=boxH_open s
 exact h x w ⟨g,g1,s⟩
theorem OpAt.append1 {G:Gl} {o:Oper} {st:St} {K:St→Prop} {t e:TypeId} {s x:Operand} {i:TypeInfo} {z:Value} (v:Value) (n size bytes:Nat) (xs news:List Value) (A:Option Addr) (m c:Nat) (rest:List HP)
  (ho:o.op=.call { callee:=.builtin .append,args:=#[s,x],argTypes:=#[t,t] }) (hp:∀ h,sepL st.h G.R h→sepL (rowH v n e size xs::rest) G.R h) (hs:evR st s=v) (hx:evR st x=.slice A m c) (hr:allR st o.op.operands.toList=true)
  (hu:G.P.underlying t=some (.slice e)) (hi:G.P.info? e=some i) (hz:i.zero=some z) (hsize:i.size=size) (hby:i.bytes=bytes) (hzs:z.cells.size=size) (hsz:0 < size)
  (src:∀ w,Sat (sepL rest G.R) w→Reads w w.heap.size size A m news) (h1:∀ u∈news,u.oneCell'=true) (h63:n+m≤maxLen) (hbytes:(n+m) * bytes≤140737488355328)
  (hpos:0 < n+m) (k:∀ g c',putK G { st with h:=rowH (.slice (some ⟨g,0,none⟩) (n+m) c') (n+m) e size (xs++news)::rest } o.dst (.v (.slice (some ⟨g,0,none⟩) (n+m) c')) none K):OpAt G o st K:=by
 refine OpAt.sem (pre:=[rowH v n e size xs]) (post:=λv' hs=>∃ g c',v'=.slice (some ⟨g,0,none⟩) (n+m) c'∧hs=[rowH (.slice (some ⟨g,0,none⟩) (n+m) c') (n+m) e size (xs++news)]) rest hp (by rw [ho];rfl) hr ?_ ?_
 ·rintro R' hR' w ⟨h,hsub,h1',h2,d,rfl,hrow,hrest⟩
  have hown:=rowH_own hrow hsub.left
  have hrd:=src w (hR' w ⟨h2,hsub.right d,hrest⟩)
  obtain ⟨v',w',hrun,hown',hB,hg,hat⟩:=run_append_appl (P:=G.P) w 0 t o.type e i z size bytes hu hi hz hsize hby hzs hsz v n xs (.inl hown) w.heap.size A m c news hrd h1 (.inr hown) h63 hbytes (Nat.zero_le _)
  obtain ⟨A',c',rfl,_⟩:=own_shape' hown'
  obtain ⟨g0,rfl⟩:∃ g0,A'=some ⟨g0,0,none⟩:=by
   rcases hown'.2 with ⟨h1,h2⟩|⟨g0,cap,cur,h1,_⟩
   ·omega
   ·injection h1 with h1;exact ⟨g0,h1⟩
  obtain ⟨h1'',r1,s1,dom⟩:=own_rowH hown'
  have s2:Sub h2 w':=λj ob e'=>by
   have hj:=hsub.right d j ob e'
   have hlt:=(Array.getElem?_eq_some_iff.1 hj).1
   rw [hg.block j hlt ?_]
   ·exact hj
   ·intro c0
    rcases d j with c1|c1
    ·exact rowH_ne hrow c0.symm c1
    ·rw [c1] at e';cases e'
  refine ⟨_,_,w',?_,⟨g0,c',rfl,rfl⟩,⟨_,s1.un s2,h1'',h2,λj=>?_,rfl,r1,hrest⟩,⟨hg.os,hg.tape,hg.output,hg.size⟩⟩
  ·have ha:(#[s,x]:Array Operand).map (evR st)=#[v,.slice A m c]:=by simp [hs,hx]
   simp only [execOp,ho,resolve,invoke,builtin,Sem.run_bind,Sem.run_pure,Result.andThen_ok,ha,hrun]
  ·by_cases c0:h1'' j=none
   ·exact .inl c0
   ·right
    have hj:=(dom j c0).1
    rcases hat with hat|⟨g,hat,hge⟩
    ·rw [hat] at hj
     rcases d j with c1|c1
     ·exact absurd c1 (rowH_ne hrow hj)
     ·exact c1
    ·rw [hat] at hj
     injection hj with hj
     subst hj
     exact (hsub.right d).none hge
 ·rintro v' hs' ⟨A',c',rfl,rfl⟩
  exact k A' c'
theorem FnR.post {P:Program} {R:HP} {f:FuncId} {args:List Value} {pre:List HP} {p q:Value→List HP→Prop} (h:FnR P R f args pre p) (hq:∀ v hs,p v hs→∃ hs',q v hs'∧∀ h,sepL hs R h→sepL hs' R h):FnR P R f args pre q:=by
 intro w s
 refine (h w s).mono ?_
 rintro e w' ⟨v,hs,rfl,hv,⟨g,g1,s'⟩,hw⟩
 obtain ⟨hs',h1,h2⟩:=hq v hs hv
 exact ⟨v,hs',rfl,h1,⟨g,g1,h2 g s'⟩,hw⟩
theorem OpAt.aggNe {G:Gl} {o:Oper} {st:St} {K:St→Prop} {t ty:TypeId} {x y:Operand} {xs ys:Array Value} {r:Bool} (ho:o.op=.binOp .neq t x y ty) (hx:evR st x=.agg xs) (hy:evR st y=.agg ys) (hr:allR st o.op.operands.toList=true) (hg:G.P.eqGuardType G.P.depth t=false)
  (heq:∀ w,(Op.equalIn 10000 t (.agg xs) (.agg ys)).run G.P w=.ok r w) (k:putK G st o.dst (.v (.bool (!r))) none K):OpAt G o st K:=by
 refine OpAt.val (.bool (!r)) (by rw [ho];rfl) hr (λw _=>?_) k
 simp [execOp,ho,hx,hy,run_eqGuard_agg _ _ _ _ _ _ _ hg,binOp,Op.equal,Op.maxDepth,heq]
theorem OpAt.aggEq {G:Gl} {o:Oper} {st:St} {K:St→Prop} {t ty:TypeId} {x y:Operand} {xs ys:Array Value} {r:Bool} (ho:o.op=.binOp .eql t x y ty) (hx:evR st x=.agg xs) (hy:evR st y=.agg ys) (hr:allR st o.op.operands.toList=true) (hg:G.P.eqGuardType G.P.depth t=false)
  (heq:∀ w,(Op.equalIn 10000 t (.agg xs) (.agg ys)).run G.P w=.ok r w) (k:putK G st o.dst (.v (.bool r)) none K):OpAt G o st K:=by
 refine OpAt.val (.bool r) (by rw [ho];rfl) hr (λw _=>?_) k
 simp [execOp,ho,hx,hy,run_eqGuard_agg _ _ _ _ _ _ _ hg,binOp,Op.equal,Op.maxDepth,heq]
end Sy
namespace Sy
set_option linter.unusedVariables false
set_option linter.unusedSimpArgs false
def itH (b:Nat) (s:ByteArray) (pos:Nat):HP:=λh=>∀ i,h i=if i=b then some (.stringIter s pos) else none
theorem OpAt.range {G:Gl} {o:Oper} {st:St} {K:St→Prop} {t:TypeId} {x:Operand} (s:ByteArray) (ho:o.op=.range t x) (hx:evR st x=.string s) (hr:allR st o.op.operands.toList=true) (hu:G.P.underlying t=some .string)
  (k:∀ b,putK G { st with h:=itH b s 0::st.h } o.dst (.v (.pointer (some ⟨b,0,none⟩))) none K):OpAt G o st K:=by
 refine OpAt.sem (pre:=[]) (post:=λv hs=>∃ b,v=.pointer (some ⟨b,0,none⟩)∧hs=[itH b s 0]) st.h (λh s=>s) (by rw [ho];rfl) hr ?_ ?_
 ·intro R' _ w sat
  refine ⟨_,_,w.alloc (.stringIter s 0),?_,⟨w.heap.size,rfl,rfl⟩,?_,.of_below ((Below.refl _ _).alloc (Nat.le_refl _) _)⟩
  ·simp only [execOp,ho,hx,Instr.range,run_underlying hu,newObj,Sem.run_bind,Result.andThen_ok,Sem.run_pure]
   rfl
  ·obtain ⟨h2,s2,a⟩:=sat
   have hb:Below w.heap.size w (w.alloc (.stringIter s 0)):=(Below.refl _ _).alloc (Nat.le_refl _) _
   refine ⟨un (λi=>if i=w.heap.size then some (.stringIter s 0) else none) h2,?_,_,h2,λi=>?_,rfl,λi=>rfl,a⟩
   ·refine Sub.un (λi o e=>?_) (s2.below hb)
    by_cases c:i=w.heap.size
    ·subst c;rw [if_pos rfl] at e;rw [← e];exact heap_alloc_new w _
    ·rw [if_neg c] at e;cases e
   ·by_cases c:i=w.heap.size
    ·subst c;exact .inr (s2.none (Nat.le_refl _))
    ·exact .inl (if_neg c)
 ·rintro v hs ⟨b,rfl,rfl⟩
  exact k b
theorem OpAt.next {G:Gl} {o:Oper} {st:St} {K:St→Prop} {x:Operand} (b:Nat) (s:ByteArray) (pos:Nat) (rest:List HP) (ho:o.op=.next x true) (hp:∀ h,sepL st.h G.R h→sepL (itH b s pos::rest) G.R h) (hx:evR st x=.pointer (some ⟨b,0,none⟩)) (hr:allR st o.op.operands.toList=true) (hlt:pos < s.size)
  (k:putK G { st with h:=itH b s (pos+(Utf8.decode s pos).2)::rest } o.dst (.v (.tuple #[.bool true,.int .i64 (pos:Int),.int .i32 ((Utf8.decode s pos).1:Int)])) none K):OpAt G o st K:=by
 refine OpAt.sem (pre:=[itH b s pos]) (post:=λv hs=>v=.tuple #[.bool true,.int .i64 (pos:Int),.int .i32 ((Utf8.decode s pos).1:Int)]∧hs=[itH b s (pos+(Utf8.decode s pos).2)]) rest hp (by rw [ho];rfl) hr ?_ ?_
 ·rintro R' _ w ⟨h,hsub,h1,h2,d,rfl,it,a⟩
  have hb:w.heap[b]? = some (.stringIter s pos):=hsub.left b _ (by rw [it];simp)
  have hb2:h2 b=none:=by
   rcases d b with e|e
   ·rw [it] at e;simp at e
   ·exact e
  refine ⟨_,_,w.iterAt b s (pos+(Utf8.decode s pos).2),?_,⟨rfl,rfl⟩,?_,⟨rfl,rfl,rfl,by rw [Lib.iterAt_size];exact Nat.le_refl _⟩⟩
  ·simp only [execOp,ho,hx,Sem.run_bind,Lib.run_next_any_at w b s pos _ hb hlt,Result.andThen_ok,Sem.run_pure]
   try rfl
  ·refine ⟨un (λi=>if i=b then some (.stringIter s (pos+(Utf8.decode s pos).2)) else none) h2,?_,_,h2,λi=>?_,rfl,λi=>rfl,a⟩
   ·refine Sub.un (λi o e=>?_) λi o e=>?_
    ·by_cases c:i=b
     ·subst c;rw [if_pos rfl] at e;rw [← e];exact Lib.iterAt_heap w _ s pos _ hb
     ·rw [if_neg c] at e;cases e
    ·have c:i≠b:=λc=>by subst c;rw [hb2] at e;cases e
     rw [Lib.iterAt_other w b i s _ c]
     exact hsub.right d i o e
   ·by_cases c:i=b
    ·subst c;exact .inr hb2
    ·exact .inl (if_neg c)
 ·rintro v hs ⟨rfl,rfl⟩
  exact k
theorem OpAt.nextEnd {G:Gl} {o:Oper} {st:St} {K:St→Prop} {x:Operand} (b:Nat) (s:ByteArray) (pos:Nat) (rest:List HP) (ho:o.op=.next x true) (hp:∀ h,sepL st.h G.R h→sepL (itH b s pos::rest) G.R h) (hx:evR st x=.pointer (some ⟨b,0,none⟩)) (hr:allR st o.op.operands.toList=true) (hlt:¬ pos < s.size)
  (k:putK G st o.dst (.v (.tuple #[.bool false])) none K):OpAt G o st K:=by
 refine OpAt.val _ (by rw [ho];rfl) hr (λw sat=>?_) k
 obtain ⟨h,hsub,sp⟩:=sat
 obtain ⟨h1,h2,d,rfl,it,a⟩:=hp h sp
 have hb:w.heap[b]? = some (.stringIter s pos):=hsub.left b _ (by rw [it];simp)
 simp only [execOp,ho,hx,Sem.run_bind,Lib.run_next_end_at w b s pos _ hb hlt,Result.andThen_ok,Sem.run_pure]
def bs (l:List UInt8):ByteArray:=⟨l.toArray⟩
@[simp] theorem bs_size (l:List UInt8):(bs l).size=l.length:=by simp [bs,ByteArray.size]
theorem bs_append (a b:List UInt8):bs a++bs b=bs (a++b):=by
 apply ByteArray.ext
 simp [bs,ByteArray.data_append]
theorem bs_data (s:ByteArray):bs s.data.toList=s:=by simp [bs]
@[simp] theorem bs_toList (l:List UInt8):(bs l).data.toList=l:=by simp [bs]
theorem bs_inj {a b:List UInt8}:bs a=bs b↔a=b:=⟨λh=>by have:=congrArg (λs=>s.data.toList) h;simpa using this,λh=>by rw [h]⟩
theorem bs_extract (l:List UInt8) (i j:Nat):(bs l).extract i j=bs ((l.take j).drop i):=by
 apply ByteArray.ext
 simp [bs,ByteArray.data_extract,List.extract_eq_take_drop]
 rw [List.drop_take]
theorem byteAt_bs (l:List UInt8) (i:Nat):byteAt (bs l) i=((l[i]?).getD 0).toNat:=by simp [byteAt]
theorem fin_drop {G:Gl} {st:St} {v r:Value} (e:r=v):Fin G r st λr hs=>r=v∧hs=[]:=⟨[],λw ⟨h,h1,s⟩=>by
 obtain ⟨h',e',s'⟩:=sub_nil s
 exact ⟨h',h1.mono e',s'⟩,e,rfl⟩
theorem OpAt.bytesStr {G:Gl} {o:Oper} {st:St} {K:St→Prop} {src dst e:TypeId} {x:Operand} (g n cap:Nat) (l:List UInt8) (rest:List HP) (ho:o.op=.convert src dst x)
  (hp:∀ h,sepL st.h G.R h→sepL (rowH (.slice (some ⟨g,0,none⟩) n cap) n e 1 (l.map λb=>.int .u8 (b.toNat:Int))::rest) G.R h) (hx:evR st x=.slice (some ⟨g,0,none⟩) n cap) (hr:allR st o.op.operands.toList=true)
  (hs:G.P.underlying src=some (.slice e)) (he:G.P.underlying e=some (.int .u8)) (hd:G.P.underlying dst=some .string)
  (k:putK G st o.dst (.v (.string (bs l))) none K):OpAt G o st K:=by
 refine OpAt.val _ (by rw [ho];rfl) hr (λw sat=>?_) k
 obtain ⟨h,hsub,sp⟩:=sat
 obtain ⟨h1,h2,d,rfl,r,a⟩:=hp h sp
 obtain ⟨hl,r⟩:=r
 have hn:n=l.length:=by simpa using hl.symm
 subst hn
 rcases r with ⟨c,_⟩|⟨g',cap',cur,e1,e2,e3,e4,e5,e6⟩
 ·cases c
 injection e1 with e1 _ _
 injection e1 with e1
 injection e1 with e1
 subst e1
 have hb:w.heap[g]? = some (.cells cur e (0,0)):=hsub.left g _ (by rw [e2];simp)
 have hc:∀ j (hj:j < l.length),w.cell? ((⟨g,0,none⟩:Addr).add j)=some (.int .u8 (l[j].toNat:Int)):=λj hj=>by
  have h3:cur.toList[j]? = some (.int .u8 (l[j].toNat:Int)):=by
   have:(cur.toList.take (l.length * 1))[j]? = some (.int .u8 (l[j].toNat:Int)):=by rw [e6];simp [hj]
   rwa [List.getElem?_take_of_lt (by omega)] at this
  have:(⟨g,0,none⟩:Addr).add j=⟨g,j,none⟩:=by cases j<;>simp [Addr.add]
  rw [this]
  unfold World.cell?
  rw [hb]
  simpa using h3
 simp only [execOp,ho,hx,Sem.run_bind,run_convert_bytes_back w src dst e ⟨g,0,none⟩ cap l hs he hd hc,Result.andThen_ok,Sem.run_pure]
 rfl
end Sy
theorem hmix:Tryz.prog.follows .mixedOrders=true:=by kernel_rfl
open Sy
set_option linter.unusedVariables false
set_option linter.unusedSimpArgs false
set_option maxRecDepth 100000
set_option maxHeartbeats 4000000
def isD (b:UInt8):Bool:=decide (48≤b.toNat) && decide (b.toNat≤57)
def nd:List UInt8→Nat
 |[]=>0
 |b::l=>if isD b then nd l+1 else 0
theorem nd_le:∀ l:List UInt8,nd l≤l.length
 |[]=>Nat.le_refl _
 |b::l=>by
  unfold nd
  have:=nd_le l
  split<;>simp<;>omega
theorem drop_at {l:List UInt8} {a:Nat} (h:a < l.length):l.drop a=l[a]::l.drop (a+1):=List.drop_eq_getElem_cons h
theorem nd_step {l:List UInt8} {a:Nat} (h:a < l.length) (hD:isD l[a]=true):nd (l.drop a)=nd (l.drop (a+1))+1:=by
 rw [drop_at h]
 show (if isD l[a]=true then _ else _)=_
 rw [if_pos hD]
theorem nd_stop {l:List UInt8} {a:Nat} (h:a < l.length) (hD:isD l[a]=false):nd (l.drop a)=0:=by
 rw [drop_at h]
 show (if isD l[a]=true then _ else _)=_
 rw [hD]
 rfl
theorem bs_get {l:List UInt8} {a:Nat} (h:a < (bs l).size):(bs l)[a]'h=l[a]'(by simpa using h):=by
 show (bs l).data[a]=_
 simp [bs]
theorem sDigits {R:HP} (l:List UInt8) (hl:l.length≤4611686018427387904):PureR Tryz.prog R 139 [.string (bs l)] (.int .i64 (nd l:Int)):=by
 refine fn_of_run0 false Tryz.func139 rfl hmix rfl λw0=>?_
 conv=>whnf
 refine ⟨trivial,OpAt.range (bs l) rfl rfl rfl rfl λb=>?_⟩
 conv=>whnf
 refine ⟨trivial,LoopAt.heap (α:=Nat) [0,6] (λa=>[]) (λa=>[itH b (bs l) a]) (λa=>a≤l.length∧nd l=a+nd (l.drop a)) (λa=>l.length - a) 0 ⟨Nat.zero_le _,by simp⟩ rfl trivial ⟨⟨rfl,rfl⟩,⟨rfl,rfl⟩,trivial⟩ trivial (λh s=>sub_same s) ?_⟩
 rintro a ⟨ha,hn⟩
 conv=>whnf
 by_cases c:a < l.length
 ·have c':a < (bs l).size:=by simpa using c
  have hd:=drop_at c
  by_cases c2:l[a].toNat < 128
  ·refine ⟨trivial,OpAt.next b (bs l) a [] rfl (λh s=>s) rfl rfl c' ?_⟩
   rw [decode_ascii (bs l) a c' (by rw [bs_get];exact c2),bs_get]
   conv=>whnf
   refine iff_t rfl ?_
   conv=>whnf
   refine ⟨λh=>?_,λh=>?_⟩
   ·have h:¬ (l[a].toNat:Int) < 48:=of_decide_eq_false h
    conv=>whnf
    refine ⟨λh2=>?_,λh2=>?_⟩
    ·have h2:(57:Int) < l[a].toNat:=of_decide_eq_true h2
     conv=>whnf
     refine ⟨trivial,fin_drop ?_⟩
     have:nd l=a:=by rw [hn,hd];simp [nd,isD];omega
     rw [this];rfl
    ·have h2:¬ (57:Int) < l[a].toNat:=of_decide_eq_false h2
     conv=>whnf
     refine ⟨trivial,Next.heap (a+1) ⟨c,?_⟩ (by omega) trivial ⟨⟨rfl,rfl⟩,⟨rfl,rfl⟩,trivial⟩ trivial rfl rfl λh s=>sub_same s⟩
     have:=nd_step c (by simp [isD];omega)
     show nd l=_
     omega
   ·have h:(l[a].toNat:Int) < 48:=of_decide_eq_true h
    conv=>whnf
    refine ⟨trivial,fin_drop ?_⟩
    have:nd l=a:=by rw [hn,hd];simp [nd,isD];omega
    rw [this];rfl
  ·refine ⟨trivial,OpAt.next b (bs l) a [] rfl (λh s=>s) rfl rfl c' ?_⟩
   have h3:=(decode_high (bs l) a c' (by rw [bs_get];omega)).1
   have:nd l=a:=by rw [hn,hd];simp [nd,isD];omega
   rw [this]
   generalize Utf8.decode (bs l) a=z at h3 ⊢
   conv=>whnf
   refine iff_t rfl ?_
   conv=>whnf
   refine ⟨λh=>?_,λh=>?_⟩
   ·conv=>whnf
    refine ⟨λh2=>?_,λh2=>?_⟩
    ·conv=>whnf
     exact ⟨trivial,fin_drop rfl⟩
    ·have h2:=of_decide_eq_false h2
     exfalso;omega
   ·have h:=of_decide_eq_true h
    exfalso;omega
 ·refine ⟨trivial,OpAt.nextEnd b (bs l) a [] rfl (λh s=>s) rfl rfl (by simpa using c) ?_⟩
  have:nd l=(bs l).size:=by
   have e:l.drop a=[]:=List.drop_eq_nil_of_le (by omega)
   rw [hn,e,bs_size];simp [nd];omega
  rw [this]
  conv=>whnf
  refine iff_f rfl ?_
  conv=>whnf
  exact ⟨trivial,fin_drop rfl⟩
open Go.Shelf
def laysM173_ren:Go.Shelf.Ren:=⟨fun|173=>72|246=>94|283=>141|284=>142|285=>143|286=>144|129=>214|317=>213|318=>215|319=>216|320=>217|337=>291|338=>292|n=>n,fun|2=>2|3=>3|9=>9|4=>4|171=>227|0=>0|53=>127|37=>28|5=>5|173=>230|212=>344|51=>233|20=>20|213=>345|46=>134|232=>478|233=>479|n=>n,fun|17=>4|18=>7|19=>8|n=>n⟩
theorem laysM173:Go.Proofs.LaysM.n173 Tryz.prog laysM173_ren:={
 mixed:=by kernel_rfl
 f129:=Tryz.func214.trans (congrArg some (by kernel_rfl))
 f173:=Tryz.func72.trans (congrArg some (by kernel_rfl))
 f246:=Tryz.func94.trans (congrArg some (by kernel_rfl))
 f283:=Tryz.func141.trans (congrArg some (by kernel_rfl))
 f284:=Tryz.func142.trans (congrArg some (by kernel_rfl))
 f285:=Tryz.func143.trans (congrArg some (by kernel_rfl))
 f286:=Tryz.func144.trans (congrArg some (by kernel_rfl))
 f317:=Tryz.func213.trans (congrArg some (by kernel_rfl))
 f318:=Tryz.func215.trans (congrArg some (by kernel_rfl))
 f319:=Tryz.func216.trans (congrArg some (by kernel_rfl))
 f320:=Tryz.func217.trans (congrArg some (by kernel_rfl))
 f337:=Tryz.func291.trans (congrArg some (by kernel_rfl))
 f338:=Tryz.func292.trans (congrArg some (by kernel_rfl))
 t0:=Tryz.underlying0
 a0:=Tryz.isAgg0
 z0:=Tryz.sizeOf0
 v0:=Tryz.zeroValue0
 t2:=Tryz.underlying2
 a2:=Tryz.isAgg2
 z2:=Tryz.sizeOf2
 v2:=Tryz.zeroValue2
 t3:=Tryz.underlying3
 a3:=Tryz.isAgg3
 z3:=Tryz.sizeOf3
 v3:=Tryz.zeroValue3
 t4:=Tryz.underlying4
 a4:=Tryz.isAgg4
 z4:=Tryz.sizeOf4
 v4:=Tryz.zeroValue4
 t5:=Tryz.underlying5
 a5:=Tryz.isAgg5
 z5:=Tryz.sizeOf5
 v5:=Tryz.zeroValue5
 t9:=Tryz.underlying9
 a9:=Tryz.isAgg9
 z9:=Tryz.sizeOf9
 v9:=Tryz.zeroValue9
 t20:=Tryz.underlying20
 a20:=Tryz.isAgg20
 z20:=Tryz.sizeOf20
 v20:=Tryz.zeroValue20
 t37:=Tryz.underlying28
 a37:=Tryz.isAgg28
 z37:=Tryz.sizeOf28
 v37:=Tryz.zeroValue28
 t46:=Tryz.underlying134
 a46:=Tryz.isAgg134
 z46:=Tryz.sizeOf134
 v46:=Tryz.zeroValue134
 t51:=Tryz.underlying233
 a51:=Tryz.isAgg233
 z51:=Tryz.sizeOf233
 v51:=Tryz.zeroValue233
 t53:=Tryz.underlying127
 a53:=Tryz.isAgg127
 z53:=Tryz.sizeOf127
 v53:=Tryz.zeroValue127
 t171:=Tryz.underlying227
 a171:=Tryz.isAgg227
 z171:=Tryz.sizeOf227
 v171:=Tryz.zeroValue227
 t173:=Tryz.underlying230
 a173:=Tryz.isAgg230
 z173:=Tryz.sizeOf230
 v173:=Tryz.zeroValue230
 t212:=Tryz.underlying344
 a212:=Tryz.isAgg344
 z212:=Tryz.sizeOf344
 v212:=Tryz.zeroValue344
 t213:=Tryz.underlying345
 a213:=Tryz.isAgg345
 z213:=Tryz.sizeOf345
 t232:=Tryz.underlying478
 a232:=Tryz.isAgg478
 z232:=Tryz.sizeOf478
 v232:=Tryz.zeroValue478
 t233:=Tryz.underlying479
 a233:=Tryz.isAgg479
 z233:=Tryz.sizeOf479
 v233:=Tryz.zeroValue479
 g17:=by kernel_rfl
 g18:=by kernel_rfl
 g19:=by kernel_rfl
 i0:=by kernel_rfl
 i2:=by kernel_rfl
 i3:=by kernel_rfl
 i4:=by kernel_rfl
 i5:=by kernel_rfl
 i9:=by kernel_rfl
 i20:=by kernel_rfl
 i37:=by kernel_rfl
 i46:=by kernel_rfl
 i51:=by kernel_rfl
 i53:=by kernel_rfl
 i171:=by kernel_rfl
 i173:=by kernel_rfl
 i212:=by kernel_rfl
 i232:=by kernel_rfl
 i233:=by kernel_rfl
 m17:=by kernel_rfl
 m18:=by kernel_rfl
 m19:=by kernel_rfl }
open Go.RowKit Go.Sort Go.Lib in
theorem strconv_FormatInt_10 (n : Int) (h0 : -9223372036854775808 ≤ n) (h1 : n ≤ 9223372036854775807) (w : World) (htab : Lib.TabIs Tryz.prog w "internal/strconv.uint64pow10" .u64 Lib.pow10Tab) :
  Calls Tryz.prog 72 #[.int .i64 n,.int .i64 10] w λe w'=>e=.returned (.string ⟨(Lib.itoa n).toArray⟩)∧∃ k os,w'=grow (w.drewN k) os:=Any.strconv_FormatInt_10 laysM173 n h0 h1 w htab
def laysC174_ren:Go.Shelf.Ren:=⟨fun|174=>140|247=>211|245=>212|287=>286|279=>287|280=>288|281=>289|282=>290|321=>322|322=>323|316=>324|171=>326|205=>325|243=>334|246=>94|283=>141|284=>142|285=>143|286=>144|129=>214|317=>213|318=>215|319=>216|320=>217|337=>291|338=>292|n=>n,fun|9=>9|3=>3|2=>2|75=>109|85=>225|4=>4|167=>433|5=>5|53=>127|175=>434|46=>134|168=>436|37=>28|0=>0|210=>476|21=>21|127=>138|145=>495|143=>493|171=>227|173=>230|212=>344|51=>233|20=>20|213=>345|232=>478|233=>479|80=>112|n=>n,fun|15=>5|16=>6|17=>4|18=>7|19=>8|n=>n⟩
theorem laysC174:Go.Proofs.LaysC.n174 Tryz.prog laysC174_ren:={
 mixed:=by kernel_rfl
 f129:=Tryz.func214.trans (congrArg some (by kernel_rfl))
 f171:=Tryz.func326.trans (congrArg some (by kernel_rfl))
 f174:=Tryz.func140.trans (congrArg some (by kernel_rfl))
 f205:=Tryz.func325.trans (congrArg some (by kernel_rfl))
 f243:=Tryz.func334.trans (congrArg some (by kernel_rfl))
 f245:=Tryz.func212.trans (congrArg some (by kernel_rfl))
 f246:=Tryz.func94.trans (congrArg some (by kernel_rfl))
 f247:=Tryz.func211.trans (congrArg some (by kernel_rfl))
 f279:=Tryz.func287.trans (congrArg some (by kernel_rfl))
 f280:=Tryz.func288.trans (congrArg some (by kernel_rfl))
 f281:=Tryz.func289.trans (congrArg some (by kernel_rfl))
 f282:=Tryz.func290.trans (congrArg some (by kernel_rfl))
 f283:=Tryz.func141.trans (congrArg some (by kernel_rfl))
 f284:=Tryz.func142.trans (congrArg some (by kernel_rfl))
 f285:=Tryz.func143.trans (congrArg some (by kernel_rfl))
 f286:=Tryz.func144.trans (congrArg some (by kernel_rfl))
 f287:=Tryz.func286.trans (congrArg some (by kernel_rfl))
 f316:=Tryz.func324.trans (congrArg some (by kernel_rfl))
 f317:=Tryz.func213.trans (congrArg some (by kernel_rfl))
 f318:=Tryz.func215.trans (congrArg some (by kernel_rfl))
 f319:=Tryz.func216.trans (congrArg some (by kernel_rfl))
 f320:=Tryz.func217.trans (congrArg some (by kernel_rfl))
 f321:=Tryz.func322.trans (congrArg some (by kernel_rfl))
 f322:=Tryz.func323.trans (congrArg some (by kernel_rfl))
 f337:=Tryz.func291.trans (congrArg some (by kernel_rfl))
 f338:=Tryz.func292.trans (congrArg some (by kernel_rfl))
 t0:=Tryz.underlying0
 a0:=Tryz.isAgg0
 z0:=Tryz.sizeOf0
 v0:=Tryz.zeroValue0
 t2:=Tryz.underlying2
 a2:=Tryz.isAgg2
 z2:=Tryz.sizeOf2
 v2:=Tryz.zeroValue2
 t3:=Tryz.underlying3
 a3:=Tryz.isAgg3
 z3:=Tryz.sizeOf3
 v3:=Tryz.zeroValue3
 t4:=Tryz.underlying4
 a4:=Tryz.isAgg4
 z4:=Tryz.sizeOf4
 v4:=Tryz.zeroValue4
 t5:=Tryz.underlying5
 a5:=Tryz.isAgg5
 z5:=Tryz.sizeOf5
 v5:=Tryz.zeroValue5
 t9:=Tryz.underlying9
 a9:=Tryz.isAgg9
 z9:=Tryz.sizeOf9
 v9:=Tryz.zeroValue9
 t20:=Tryz.underlying20
 a20:=Tryz.isAgg20
 z20:=Tryz.sizeOf20
 v20:=Tryz.zeroValue20
 t21:=Tryz.underlying21
 a21:=Tryz.isAgg21
 z21:=Tryz.sizeOf21
 v21:=Tryz.zeroValue21
 t37:=Tryz.underlying28
 a37:=Tryz.isAgg28
 z37:=Tryz.sizeOf28
 v37:=Tryz.zeroValue28
 t46:=Tryz.underlying134
 a46:=Tryz.isAgg134
 z46:=Tryz.sizeOf134
 v46:=Tryz.zeroValue134
 t51:=Tryz.underlying233
 a51:=Tryz.isAgg233
 z51:=Tryz.sizeOf233
 v51:=Tryz.zeroValue233
 t53:=Tryz.underlying127
 a53:=Tryz.isAgg127
 z53:=Tryz.sizeOf127
 v53:=Tryz.zeroValue127
 t75:=Tryz.underlying109
 a75:=Tryz.isAgg109
 z75:=Tryz.sizeOf109
 v75:=Tryz.zeroValue109
 t85:=Tryz.underlying225
 a85:=Tryz.isAgg225
 z85:=Tryz.sizeOf225
 v85:=Tryz.zeroValue225
 t127:=Tryz.underlying138
 a127:=Tryz.isAgg138
 z127:=Tryz.sizeOf138
 v127:=Tryz.zeroValue138
 t143:=Tryz.underlying493
 a143:=Tryz.isAgg493
 z143:=Tryz.sizeOf493
 v143:=Tryz.zeroValue493
 t145:=Tryz.underlying495
 a145:=Tryz.isAgg495
 z145:=Tryz.sizeOf495
 v145:=Tryz.zeroValue495
 t167:=Tryz.underlying433
 a167:=Tryz.isAgg433
 z167:=Tryz.sizeOf433
 v167:=Tryz.zeroValue433
 t168:=Tryz.underlying436
 a168:=Tryz.isAgg436
 z168:=Tryz.sizeOf436
 v168:=Tryz.zeroValue436
 t171:=Tryz.underlying227
 a171:=Tryz.isAgg227
 z171:=Tryz.sizeOf227
 v171:=Tryz.zeroValue227
 t173:=Tryz.underlying230
 a173:=Tryz.isAgg230
 z173:=Tryz.sizeOf230
 v173:=Tryz.zeroValue230
 t175:=Tryz.underlying434
 a175:=Tryz.isAgg434
 z175:=Tryz.sizeOf434
 v175:=Tryz.zeroValue434
 t210:=Tryz.underlying476
 a210:=Tryz.isAgg476
 z210:=Tryz.sizeOf476
 v210:=Tryz.zeroValue476
 t212:=Tryz.underlying344
 a212:=Tryz.isAgg344
 z212:=Tryz.sizeOf344
 v212:=Tryz.zeroValue344
 t213:=Tryz.underlying345
 a213:=Tryz.isAgg345
 z213:=Tryz.sizeOf345
 t232:=Tryz.underlying478
 a232:=Tryz.isAgg478
 z232:=Tryz.sizeOf478
 v232:=Tryz.zeroValue478
 t233:=Tryz.underlying479
 a233:=Tryz.isAgg479
 z233:=Tryz.sizeOf479
 v233:=Tryz.zeroValue479
 g15:=by kernel_rfl
 g16:=by kernel_rfl
 g17:=by kernel_rfl
 g18:=by kernel_rfl
 g19:=by kernel_rfl
 t80:=Tryz.underlying112
 a80:=Tryz.isAgg112
 z80:=Tryz.sizeOf112
 v80:=Tryz.zeroValue112
 i0:=by kernel_rfl
 i2:=by kernel_rfl
 i3:=by kernel_rfl
 i4:=by kernel_rfl
 i5:=by kernel_rfl
 i9:=by kernel_rfl
 i20:=by kernel_rfl
 i21:=by kernel_rfl
 i37:=by kernel_rfl
 i46:=by kernel_rfl
 i51:=by kernel_rfl
 i53:=by kernel_rfl
 i75:=by kernel_rfl
 i80:=by kernel_rfl
 i85:=by kernel_rfl
 i127:=by kernel_rfl
 i143:=by kernel_rfl
 i145:=by kernel_rfl
 i167:=by kernel_rfl
 i168:=by kernel_rfl
 i171:=by kernel_rfl
 i173:=by kernel_rfl
 i175:=by kernel_rfl
 i210:=by kernel_rfl
 i212:=by kernel_rfl
 i232:=by kernel_rfl
 i233:=by kernel_rfl
 m15:=by kernel_rfl
 m16:=by kernel_rfl
 m17:=by kernel_rfl
 m18:=by kernel_rfl
 m19:=by kernel_rfl
 c0:=by kernel_rfl
 c2:=by kernel_rfl
 c3:=by kernel_rfl
 c4:=by kernel_rfl
 c5:=by kernel_rfl
 c9:=by kernel_rfl
 c20:=by kernel_rfl
 c21:=by kernel_rfl
 c37:=by kernel_rfl
 c46:=by kernel_rfl
 c51:=by kernel_rfl
 c53:=by kernel_rfl
 c75:=by kernel_rfl
 c80:=by kernel_rfl
 c85:=by kernel_rfl
 c127:=by kernel_rfl
 c143:=by kernel_rfl
 c145:=by kernel_rfl
 c167:=by kernel_rfl
 c168:=by kernel_rfl
 c171:=by kernel_rfl
 c173:=by kernel_rfl
 c175:=by kernel_rfl
 c210:=by kernel_rfl
 c212:=by kernel_rfl
 c213:=by kernel_rfl
 c232:=by kernel_rfl
 c233:=by kernel_rfl }
open Go.RowKit in
theorem strconv_ParseInt_10_at64_ok (s:ByteArray) (hmax:s.size≤9223372036854775806) (v:Int) (h:Lib.parseIntB 64 s.data.toList=.ok v) (w:World) :
  Calls Tryz.prog 140 #[.string s,.int .i64 10,.int .i64 64] w λe w'=>e=.returned (.tuple #[.int .i64 v,.nilIface])∧(w'=w∨∃ t,w'=Lib.bytesWorld w 5 t):=Any.strconv_ParseInt_10_at64_ok laysC174 s hmax v h w
open Go.RowKit in
theorem strconv_ParseInt_10_at64_syntax_var (s : ByteArray) (hlim : s.size ≤ 281474976710656) (h : Lib.parseIntB 64 s.data.toList = Lib.NumEnd.syntax) (tp : TypeId) (p : Value) (w : World) (hvar : w.var? Tryz.prog "strconv.ErrSyntax" = some #[.iface tp p]) :
  Calls Tryz.prog 140 #[.string s,.int .i64 10,.int .i64 64] w λe w'=>∃ N,e=.returned (.tuple #[.int .i64 (0),.iface 436 (.pointer (some ⟨N,0,none⟩))])∧w.heap.size≤N∧w'.heap[N]? = some (.cells #[.string ⟨#[80,97,114,115,101,73,110,116]⟩,.string s,.iface tp p] 476 (0,0))∧Below w.heap.size w w':=Any.strconv_ParseInt_10_at64_syntax_var laysC174 s hlim h tp p w hvar
open Go.RowKit in
theorem strconv_ParseInt_10_at64_range_var (s : ByteArray) (hlim : s.size ≤ 281474976710656) (h : Lib.parseIntB 64 s.data.toList = .range) (tp : TypeId) (p : Value) (w : World) (hvar : w.var? Tryz.prog "strconv.ErrRange" = some #[.iface tp p]) :
  Calls Tryz.prog 140 #[.string s,.int .i64 10,.int .i64 64] w λe w'=>∃ N,e=.returned (.tuple #[.int .i64 (Lib.intSat 64 s.data.toList),.iface 436 (.pointer (some ⟨N,0,none⟩))])∧w.heap.size≤N∧w'.heap[N]? = some (.cells #[.string ⟨#[80,97,114,115,101,73,110,116]⟩,.string s,.iface tp p] 476 (0,0))∧Below w.heap.size w w':=Any.strconv_ParseInt_10_at64_range_var laysC174 s hlim h tp p w hvar
def lays101_ren:Go.Shelf.Ren:=⟨fun|101=>138|208=>210|206=>285|n=>n,fun|9=>9|4=>4|3=>3|n=>n,fun|n=>n⟩
theorem lays101:Go.Proofs.Lays.n101 Tryz.prog lays101_ren:={
 mixed:=by kernel_rfl
 f101:=Tryz.func138.trans (congrArg some (by kernel_rfl))
 f206:=Tryz.func285.trans (congrArg some (by kernel_rfl))
 f208:=Tryz.func210.trans (congrArg some (by kernel_rfl))
 t3:=Tryz.underlying3
 a3:=Tryz.isAgg3
 z3:=Tryz.sizeOf3
 v3:=Tryz.zeroValue3
 t4:=Tryz.underlying4
 a4:=Tryz.isAgg4
 z4:=Tryz.sizeOf4
 v4:=Tryz.zeroValue4
 t9:=Tryz.underlying9
 a9:=Tryz.isAgg9
 z9:=Tryz.sizeOf9
 v9:=Tryz.zeroValue9 }
open Go.RowKit Go.Lib in
theorem strings_TrimPrefix (s p:ByteArray) (w:World) :
  Calls Tryz.prog 138 #[.string s,.string p] w λe w'=>e=.returned (.string ⟨(Lib.trimPrefix s.data.toList p.data.toList).toArray⟩)∧w'=w:=Any.strings_TrimPrefix lays101 s p w
def NumW (w : World) : Prop := Lib.TabIs Tryz.prog w "internal/strconv.uint64pow10" .u64 Lib.pow10Tab ∧ (∃ tp p, w.var? Tryz.prog "strconv.ErrRange" = some #[.iface tp p]) ∧ ∃ tp p, w.var? Tryz.prog "strconv.ErrSyntax" = some #[.iface tp p]
theorem sat_base {l:List HP} {R:HP} {w:World} (s:Sat (sepL l R) w):Sat R w:=by
 obtain ⟨h,h1,s⟩:=s
 obtain ⟨h',e,s'⟩:=sub_nil s
 exact ⟨h',h1.mono e,s'⟩
theorem sFormat {R:HP} (hN:∀ w,Sat R w→NumW w) (n:Int) (h0:-9223372036854775808≤n) (h1:n≤9223372036854775807):PureR Tryz.prog R 72 [.int .i64 n,.int .i64 10] (.string (bs (Lib.itoa n))):=by
 refine PureR.of_below λw hw=>(strconv_FormatInt_10 n h0 h1 w (hN w hw).1).mono ?_
 rintro e w' ⟨rfl,k,os,rfl⟩
 exact ⟨rfl,Lib.below_grow _ w (Nat.le_refl _) k os⟩
theorem sTrim {R:HP} (l p:List UInt8):PureR Tryz.prog R 138 [.string (bs l),.string (bs p)] (.string (bs (Lib.trimPrefix l p))):=by
 refine PureR.of_below λw hw=>(strings_TrimPrefix (bs l) (bs p) w).mono ?_
 rintro e w' ⟨rfl,rfl⟩
 exact ⟨by simp only [bs_toList];rfl,Below.refl _ _⟩
theorem sParse {R:HP} (l:List UInt8) (hl:l.length≤9223372036854775806) {v:Int} (h:Lib.parseIntB 64 l=.ok v):PureR Tryz.prog R 140 [.string (bs l),.int .i64 10,.int .i64 64] (.tuple #[.int .i64 v,.nilIface]):=by
 refine PureR.of_below λw hw=>(strconv_ParseInt_10_at64_ok (bs l) (by simpa using hl) v (by simpa using h) w).mono ?_
 rintro e w' ⟨rfl,hw'⟩
 refine ⟨rfl,?_⟩
 rcases hw' with rfl|⟨t,rfl⟩
 ·exact Below.refl _ _
 ·exact Lib.bytesWorld_below _ _ _
theorem sParseBad {R:HP} (hN:∀ w,Sat R w→NumW w) (l:List UInt8) (hl:l.length≤281474976710656) (h:∀ v,Lib.parseIntB 64 l≠.ok v):FnR Tryz.prog R 140 [.string (bs l),.int .i64 10,.int .i64 64] [] λr hs=>∃ z N,r=.tuple #[.int .i64 z,.iface 436 (.pointer (some ⟨N,0,none⟩))]∧hs=[]:=by
 rintro w ⟨g,g1,g2⟩
 have key:Calls Tryz.prog 140 #[.string (bs l),.int .i64 10,.int .i64 64] w λe w'=>∃ z N,e=.returned (.tuple #[.int .i64 z,.iface 436 (.pointer (some ⟨N,0,none⟩))])∧Below w.heap.size w w':=by
  obtain ⟨_,⟨tp,p,e1⟩,tp',p',e2⟩:=hN w ⟨g,g1,g2⟩
  cases c:Lib.parseIntB 64 l with
  |ok v=>exact absurd c (h v)
  |range =>
   refine (strconv_ParseInt_10_at64_range_var (bs l) (by simpa using hl) (by simpa using c) tp p w e1).mono ?_
   rintro e w' ⟨N,rfl,_,_,hb⟩
   exact ⟨_,N,rfl,hb⟩
  |_ =>
   refine (strconv_ParseInt_10_at64_syntax_var (bs l) (by simpa using hl) (by simpa using c) tp' p' w e2).mono ?_
   rintro e w' ⟨N,rfl,_,_,hb⟩
   exact ⟨_,N,rfl,hb⟩
 refine key.mono ?_
 rintro e w' ⟨z,N,rfl,hb⟩
 exact ⟨_,[],rfl,⟨z,N,rfl,rfl⟩,⟨g,g1.below hb,g2⟩,.of_below hb⟩
def sgn (r:List UInt8):Nat:=if r.head? = some 45 then 1 else 0
theorem trim_sgn (r:List UInt8):Lib.trimPrefix r [45]=r.drop (sgn r):=by
 cases r with
 |nil=>rfl
 |cons a r =>
  unfold Lib.trimPrefix Lib.hasPrefix sgn
  by_cases c:a=45
  ·subst c;simp
  ·have:¬ (45:UInt8)=a:=λe=>c e.symm
   simp [c,this]
def numOf (p:Lib.NumEnd Int) (e:Int):Int × Int × Int:=match p with
 |.ok v=>(v,e,0)
 |_=>(0,0,7)
def scan (l:List UInt8) (at':Int):Int × Int × Int :=
 if at' < 0∨(l.length:Int) < at' then (0,0,11) else
 let r:=l.drop at'.toNat
 let n:=nd (r.drop (sgn r))
 if n=0∨((r.drop (sgn r))[0]? = some 48∧(1 < n∨0 < sgn r)) then (0,0,12) else
 numOf (Lib.parseIntB 64 (r.take (sgn r+n))) (at'+sgn r+n)
abbrev scanV (x:Int × Int × Int):Value:=.tuple #[.int .i64 x.1,.int .i64 x.2.1,.int .i64 x.2.2]
theorem sgn_le (r:List UInt8):sgn r≤r.length:=by
 cases r with
 |nil=>simp [sgn]
 |cons a r=>unfold sgn;split<;>simp
theorem u8_48 {l:List UInt8} (h:0 < l.length):(byteAt (bs l) 0=48)↔l[0]? = some 48:=by
 cases l with
 |nil=>simp at h
 |cons a l =>
  rw [byteAt_bs]
  simp only [List.getElem?_cons_zero,Option.getD_some,Option.some.injEq]
  constructor
  ·intro e
   apply UInt8.toNat_inj.1
   have:a.toNat=48:=by omega
   rw [this];rfl
  ·rintro rfl;rfl
theorem sScan {R:HP} (hN:∀ w,Sat R w→NumW w) (l:List UInt8) (hl:l.length≤1048576) (at':Int):PureR Tryz.prog R 93 [.string (bs l),.int .i64 at'] (scanV (scan l at')):=by
 refine fn_of_run0 false Tryz.func93 rfl hmix rfl λw0=>?_
 conv=>whnf
 refine ⟨λh1=>?_,λh1=>?_⟩
 ·have h1:¬ at' < 0:=of_decide_eq_false h1
  conv=>whnf
  refine ⟨λh2=>?_,λh2=>?_⟩
  ·have h2:((bs l).size:Int) < at':=of_decide_eq_true h2
   rw [bs_size] at h2
   have e:scan l at'=(0,0,11):=by unfold scan;rw [if_pos (.inr h2)]
   rw [e]
   conv=>whnf
   exact ⟨trivial,fin_drop rfl⟩
  ·have h2:¬ ((bs l).size:Int) < at':=of_decide_eq_false h2
   rw [bs_size] at h2
   obtain ⟨n,rfl⟩:∃ n:Nat,at'=(n:Int):=⟨at'.toNat,by omega⟩
   have hn:n≤l.length:=by omega
   have ext:(bs l).extract (n:Int).toNat ((bs l).size:Int).toNat=bs (l.drop n):=by
    rw [bs_extract,Int.toNat_natCast,Int.toNat_natCast,bs_size,List.take_length]
   obtain ⟨r,hr⟩:∃ r,l.drop n=r:=⟨_,rfl⟩
   have hrl:r.length=l.length - n:=by rw [← hr];simp
   obtain ⟨q,hq⟩:∃ q,r.drop (sgn r)=q:=⟨_,rfl⟩
   have hql:q.length=r.length - sgn r:=by rw [← hq];simp
   have hsg:=sgn_le r
   have hnd:=nd_le q
   conv=>whnf
   refine ⟨⟨trivial,by rw [bs_size];omega⟩,CallAt.pure (v:=.string (bs q)) (λR' hR'=>?_) ?_⟩
   ·rw [ext,hr,← hq,← trim_sgn]
    exact sTrim r [45]
   conv=>whnf
   refine ⟨⟨⟨trivial,by rw [bs_size];unfold rng;omega⟩,by rw [bs_size,bs_size];unfold rng;omega⟩,CallAt.pure (λR' hR'=>sDigits q (by omega)) ?_⟩
   have hN2:(scan l (n:Int))=(if nd q=0∨(q[0]? = some 48∧(1 < nd q∨0 < sgn r)) then (0,0,12) else
     numOf (Lib.parseIntB 64 (r.take (sgn r+nd q))) ((n:Int)+sgn r+nd q)):=by
    unfold scan
    rw [if_neg (by omega)]
    simp only [Int.toNat_natCast,hr,hq]
   have ext2:(bs l).extract (n:Int).toNat ((n:Int)+(((bs l).size:Int) - n - ((bs q).size:Int))+(nd q:Int)).toNat=bs (r.take (sgn r+nd q)):=by
    rw [bs_extract,bs_size,bs_size]
    congr 1
    rw [List.drop_take,Int.toNat_natCast,hr]
    congr 1
    omega
   have sub1:(n:Int)+(((bs l).size:Int) - n - ((bs q).size:Int))+(nd q:Int)=(n:Int)+sgn r+nd q:=by rw [bs_size,bs_size];omega
   have sub2:((bs l).size:Int) - n - ((bs q).size:Int)=sgn r:=by rw [bs_size,bs_size];omega
   rw [sub2] at ext2
   have hsl:(r.take (sgn r+nd q)).length≤1048576:=by rw [List.length_take];omega
   rw [sub2]
   conv=>whnf
   refine ⟨λh3=>?_,λh3=>?_⟩
   ·have h3:¬ (nd q:Int)=0:=of_decide_eq_false h3
    have hq0:0 < q.length:=by omega
    have h48:=u8_48 hq0
    conv=>whnf
    refine ⟨λh4=>?_,λh4=>?_⟩
    ·have h4:=h48.1 (of_decide_eq_true h4)
     conv=>whnf
     refine ⟨λh5=>?_,λh5=>?_⟩
     ·have h5:=of_decide_eq_false h5
      conv=>whnf
      refine ⟨λh6=>?_,λh6=>?_⟩
      ·have h6:=of_decide_eq_true h6
       rw [hN2,if_pos (.inr ⟨h4,.inr (by omega)⟩)]
       conv=>whnf
       exact ⟨⟨trivial,by rw [bs_size];omega⟩,fin_drop rfl⟩
      ·have h6:=of_decide_eq_false h6
       rw [hN2,if_neg (by omega)]
       conv=>whnf
       refine ⟨⟨⟨⟨⟨trivial,by rw [bs_size];omega⟩,by unfold rng;omega⟩,by unfold rng;omega⟩,by rw [bs_size];omega⟩,?_⟩
       by_cases hp:∃ v,Lib.parseIntB 64 (r.take (sgn r+nd q))=.ok v
       ·obtain ⟨v,hp⟩:=hp
        refine CallAt.pure (v:=.tuple #[.int .i64 v,.nilIface]) (λR' hR'=>by rw [ext2];exact sParse _ (by omega) hp) ?_
        conv=>whnf
        rw [hp]
        refine iff_f rfl ?_
        conv=>whnf
        exact ⟨trivial,fin_drop rfl⟩
       ·refine CallAt.fn (pre:=[]) [] (λh s=>s) (λR' hR'=>by rw [ext2];exact sParseBad (λw hw=>hN w (sat_base (hR' w hw))) _ (by omega) λv hv=>hp ⟨v,hv⟩) ?_
        rintro _ _ ⟨z,N,rfl,rfl⟩
        have e7:numOf (Lib.parseIntB 64 (r.take (sgn r+nd q))) ((n:Int)+sgn r+nd q)=(0,0,7):=by
         cases c:Lib.parseIntB 64 (r.take (sgn r+nd q)) with
         |ok v=>exact absurd ⟨v,c⟩ hp
         |_=>rfl
        rw [e7]
        conv=>whnf
        refine iff_t rfl ?_
        conv=>whnf
        exact ⟨trivial,fin_drop rfl⟩
     ·have h5:=of_decide_eq_true h5
      rw [hN2,if_pos (.inr ⟨h4,.inl (by omega)⟩)]
      conv=>whnf
      exact ⟨⟨trivial,by rw [bs_size];omega⟩,fin_drop rfl⟩
    ·have h4:¬ q[0]? = some 48:=λe=>(of_decide_eq_false h4) (h48.2 e)
     rw [hN2,if_neg (by rintro (e|⟨e,_⟩);omega;exact h4 e)]
     conv=>whnf
     refine ⟨⟨⟨⟨⟨trivial,by rw [bs_size];omega⟩,by unfold rng;omega⟩,by unfold rng;omega⟩,by rw [bs_size];omega⟩,?_⟩
     by_cases hp:∃ v,Lib.parseIntB 64 (r.take (sgn r+nd q))=.ok v
     ·obtain ⟨v,hp⟩:=hp
      refine CallAt.pure (v:=.tuple #[.int .i64 v,.nilIface]) (λR' hR'=>by rw [ext2];exact sParse _ (by omega) hp) ?_
      conv=>whnf
      rw [hp]
      refine iff_f rfl ?_
      conv=>whnf
      exact ⟨trivial,fin_drop rfl⟩
     ·refine CallAt.fn (pre:=[]) [] (λh s=>s) (λR' hR'=>by rw [ext2];exact sParseBad (λw hw=>hN w (sat_base (hR' w hw))) _ (by omega) λv hv=>hp ⟨v,hv⟩) ?_
      rintro _ _ ⟨z,N,rfl,rfl⟩
      have e7:numOf (Lib.parseIntB 64 (r.take (sgn r+nd q))) ((n:Int)+sgn r+nd q)=(0,0,7):=by
       cases c:Lib.parseIntB 64 (r.take (sgn r+nd q)) with
       |ok v=>exact absurd ⟨v,c⟩ hp
       |_=>rfl
      rw [e7]
      conv=>whnf
      refine iff_t rfl ?_
      conv=>whnf
      exact ⟨trivial,fin_drop rfl⟩
   ·have h3:=of_decide_eq_true h3
    rw [hN2,if_pos (.inl (by omega))]
    conv=>whnf
    exact ⟨trivial,fin_drop rfl⟩
 ·have h1:at' < 0:=of_decide_eq_true h1
  have e:scan l at'=(0,0,11):=by unfold scan;rw [if_pos (.inl h1)]
  rw [e]
  conv=>whnf
  exact ⟨trivial,fin_drop rfl⟩
def read (l:List UInt8):Int × Int :=
 let x:=scan l 0
 if x.2.2≠0 then (0,x.2.2) else if x.2.1 < l.length then (0,12) else (x.1,0)
theorem sRead {R:HP} (hN:∀ w,Sat R w→NumW w) (l:List UInt8) (hl:l.length≤1048576):PureR Tryz.prog R 71 [.string (bs l)] (.tuple #[.int .i64 (read l).1,.int .i64 (read l).2]):=by
 obtain ⟨x,hx⟩:∃ x,scan l 0=x:=⟨_,rfl⟩
 have hr:read l=(if x.2.2≠0 then (0,x.2.2) else if x.2.1 < l.length then (0,12) else (x.1,0)):=by unfold read;rw [hx]
 refine fn_of_run0 false Tryz.func71 rfl hmix rfl λw0=>?_
 conv=>whnf
 refine ⟨trivial,CallAt.pure (v:=scanV x) (λR' hR'=>by rw [← hx];exact sScan (λw hw=>hN w (sat_base (hR' w hw))) l hl 0) ?_⟩
 obtain ⟨a,b,c⟩:=x
 simp only at hr
 conv=>whnf
 refine ⟨λh1=>?_,λh1=>?_⟩
 ·have h1:c≠0:=by simpa using h1
  rw [hr,if_pos h1]
  conv=>whnf
  exact ⟨trivial,fin_drop rfl⟩
 ·have h1:c=0:=by simpa using h1
  rw [hr,if_neg (by simpa using h1)]
  conv=>whnf
  refine ⟨λh2=>?_,λh2=>?_⟩
  ·have h2:=of_decide_eq_true h2
   rw [bs_size] at h2
   rw [if_pos h2]
   conv=>whnf
   exact ⟨trivial,fin_drop rfl⟩
  ·have h2:=of_decide_eq_false h2
   rw [bs_size] at h2
   rw [if_neg h2]
   conv=>whnf
   exact ⟨trivial,fin_drop rfl⟩
theorem sPrint {R:HP} (hN:∀ w,Sat R w→NumW w) (n:Int) (h0:-9223372036854775808≤n) (h1:n≤9223372036854775807):PureR Tryz.prog R 58 [.int .i64 n] (.string (bs (Lib.itoa n))):=by
 refine fn_of_run0 false Tryz.func58 rfl hmix rfl λw0=>?_
 conv=>whnf
 refine ⟨trivial,CallAt.pure (λR' hR'=>sFormat (λw hw=>hN w (sat_base (hR' w hw))) n h0 h1) ?_⟩
 conv=>whnf
 exact ⟨trivial,fin_drop rfl⟩
def dv (a:Nat) (l:List UInt8):Nat:=l.foldl (λa c=>a * 10+(c.toNat - 48)) a
theorem dv_le:∀ (l:List UInt8) (a:Nat),a≤dv a l
 |[],a=>Nat.le_refl _
 |c::l,a=>by
  have:=dv_le l (a * 10+(c.toNat - 48))
  show a≤dv (a * 10+(c.toNat - 48)) l
  omega
theorem dv_append (a:Nat) (l m:List UInt8):dv a (l++m)=dv (dv a l) m:=by simp [dv,List.foldl_append]
theorem dv_take_le (l:List UInt8) {i j:Nat} (h:i≤j):dv 0 (l.take i)≤dv 0 (l.take j):=by
 have:l.take j=l.take i++(l.take j).drop i:=by
  have:=(List.take_append_drop i (l.take j)).symm
  rwa [List.take_take,Nat.min_eq_left h] at this
 rw [this,dv_append]
 exact dv_le _ _
theorem dv_succ (l:List UInt8) {i:Nat} (h:i < l.length):dv 0 (l.take (i+1))=dv 0 (l.take i) * 10+(l[i].toNat - 48):=by
 rw [List.take_succ_eq_append_getElem h,dv_append]
 rfl
theorem isD_iff {c:UInt8}:isD c=true↔48≤c.toNat∧c.toNat≤57:=by simp [isD]
theorem pM:∀ (l:List UInt8) (a:Nat),(∀ c∈l,isD c=true)→a≤18446744073709551615→Lib.parseUintM 18446744073709551615 a l=if dv a l≤18446744073709551615 then .ok (dv a l) else .range
 |[],a,_,ha=>by
  show Lib.NumEnd.ok a=_
  rw [show dv a []=a from rfl,if_pos ha]
 |c::l,a,h,ha=>by
  have hc:=isD_iff.1 (h c List.mem_cons_self)
  have e:dv a (c::l)=dv (a * 10+(c.toNat - 48)) l:=rfl
  have h2:=dv_le l (a * 10+(c.toNat - 48))
  rw [e]
  unfold Lib.parseUintM
  rw [if_pos hc]
  by_cases c1:1844674407370955162≤a
  ·rw [if_pos c1,if_neg (by omega)]
  ·rw [if_neg c1]
   by_cases c2:18446744073709551615 < a * 10+(c.toNat - 48)
   ·rw [if_pos c2,if_neg (by omega)]
   ·rw [if_neg c2]
    exact pM l _ (λx hx=>h x (List.mem_cons_of_mem _ hx)) (by omega)
theorem nd_all:∀ (l:List UInt8),∀ c∈l.take (nd l),isD c=true
 |[],c,h=>by simp at h
 |a::l,c,h=>by
  unfold nd at h
  split at h
  ·rename_i ha
   simp only [List.take_succ_cons,List.mem_cons] at h
   rcases h with rfl|h
   ·exact ha
   ·exact nd_all l c h
  ·simp at h
theorem pU {l:List UInt8} (h0:l≠[]) (h:∀ c∈l,isD c=true):Lib.parseUintB 64 l=if dv 0 l≤18446744073709551615 then .ok (dv 0 l) else .range:=by
 unfold Lib.parseUintB
 rw [if_neg h0]
 exact pM l 0 h (by omega)
theorem pI (r:List UInt8) (hn:0 < nd (r.drop (sgn r))) (e:Int):numOf (Lib.parseIntB 64 (r.take (sgn r+nd (r.drop (sgn r))))) e =
  if dv 0 ((r.drop (sgn r)).take (nd (r.drop (sgn r))))≤9223372036854775807+sgn r then ((if sgn r=1 then -(dv 0 ((r.drop (sgn r)).take (nd (r.drop (sgn r)))):Int) else (dv 0 ((r.drop (sgn r)).take (nd (r.drop (sgn r)))):Int)),e,0) else (0,0,7):=by
 have hall:=nd_all (r.drop (sgn r))
 have hle:=nd_le (r.drop (sgn r))
 have hsplit:r.take (sgn r+nd (r.drop (sgn r)))=r.take (sgn r)++(r.drop (sgn r)).take (nd (r.drop (sgn r))):=List.take_add
 rw [hsplit]
 generalize hds:(r.drop (sgn r)).take (nd (r.drop (sgn r)))=ds at *
 have hne:ds≠[]:=by
  intro c
  have:ds.length=nd (r.drop (sgn r)):=by rw [← hds,List.length_take];omega
  rw [c] at this
  simp at this
  omega
 have hp:=pU hne hall
 by_cases hs:r.head? = some 45
 ·have h1:sgn r=1:=by unfold sgn;rw [if_pos hs]
  obtain ⟨q,rfl⟩:∃ q,r=45::q:=by
   cases r with
   |nil=>simp at hs
   |cons a q=>simp at hs;exact ⟨q,by rw [hs]⟩
  rw [h1]
  simp only [List.take_succ_cons,List.take_zero,List.cons_append,List.nil_append]
  have e1:Lib.parseIntB 64 (45::ds)=match Lib.parseUintB 64 ds with
    |Lib.NumEnd.syntax=>Lib.NumEnd.syntax
    |.range=>.range
    |.ok u=>if 9223372036854775808 < u then .range else .ok (-(u:Int)):=by
   unfold Lib.parseIntB
   simp
   cases Lib.parseUintB 64 ds<;>rfl
  rw [e1,hp]
  by_cases c:dv 0 ds≤18446744073709551615
  ·rw [if_pos c]
   by_cases c2:9223372036854775808 < dv 0 ds
   ·simp only [c2,if_true];rw [if_neg (by omega)];rfl
   ·simp only [c2,if_false];rw [if_pos (by omega)];rfl
  ·rw [if_neg c,if_neg (by omega)];rfl
 ·have h1:sgn r=0:=by unfold sgn;rw [if_neg hs]
  rw [h1]
  simp only [List.take_zero,List.nil_append]
  obtain ⟨a,ds',rfl⟩:∃ a ds',ds=a::ds':=by
   cases ds with
   |nil=>exact absurd rfl hne
   |cons a ds'=>exact ⟨a,ds',rfl⟩
  have ha:=isD_iff.1 (hall a List.mem_cons_self)
  have e1:Lib.parseIntB 64 (a::ds')=match Lib.parseUintB 64 (a::ds') with
    |Lib.NumEnd.syntax=>Lib.NumEnd.syntax
    |.range=>.range
    |.ok u=>if 9223372036854775808≤u then .range else .ok (u:Int):=by
   unfold Lib.parseIntB
   have n1:¬ a.toNat=43:=by omega
   have n2:¬ a.toNat=45:=by omega
   simp [n1,n2]
   cases Lib.parseUintB 64 (a::ds')<;>rfl
  rw [e1,hp]
  generalize a::ds'=ds at *
  by_cases c:dv 0 ds≤18446744073709551615
  ·rw [if_pos c]
   by_cases c2:9223372036854775808≤dv 0 ds
   ·simp only [c2,if_true];rw [if_neg (by omega)];rfl
   ·simp only [c2,if_false];rw [if_pos (by omega)];rfl
  ·rw [if_neg c,if_neg (by omega)];rfl
theorem byte_q {l q:List UInt8} {frm i:Nat} (h:l.drop frm=q) (hi:i < q.length):byteAt (bs l) (((frm+i:Nat):Int)).toNat=(q[i].toNat:Int):=by
 rw [byteAt_bs,Int.toNat_natCast,← List.getElem?_drop,h,List.getElem?_eq_getElem hi]
 rfl
theorem u8_is {a:UInt8} (k:UInt8):((a.toNat:Int)=(k.toNat:Int))↔a=k:=by
 constructor
 ·intro e;exact UInt8.toNat_inj.1 (by omega)
 ·rintro rfl;rfl
theorem scan_of {l r q:List UInt8} {n i sg:Nat} (hn:n≤l.length) (hr:l.drop n=r) (hsg:sgn r=sg) (hqq:r.drop sg=q) (hNi:nd q=i) :
  scan l (n:Int)=if i=0∨(q[0]? = some 48∧(1 < i∨0 < sg)) then (0,0,12) else if dv 0 (q.take i)≤9223372036854775807+sg then ((if sg=1 then -(dv 0 (q.take i):Int) else (dv 0 (q.take i):Int)),((n+sg+i:Nat):Int),0) else (0,0,7):=by
 subst hsg hNi
 unfold scan
 rw [if_neg (by omega)]
 simp only [Int.toNat_natCast,hr,hqq]
 by_cases c:nd q=0∨(q[0]? = some 48∧(1 < nd q∨0 < sgn r))
 ·rw [if_pos c,if_pos c]
 ·rw [if_neg c,if_neg c]
  have h0:0 < nd (r.drop (sgn r)):=by rw [hqq];omega
  have:=pI r h0 ((n+sgn r+nd q:Nat):Int)
  rw [hqq] at this
  rw [← this]
  congr 1
theorem sRefScan {R:HP} (l:List UInt8) (hl:l.length≤1048576) (at':Int):PureR Tryz.prog R 31 [.string (bs l),.int .i64 at'] (scanV (scan l at')):=by
 refine fn_of_run0 true Tryz.func31 rfl hmix rfl λw0=>?_
 conv=>whnf
 refine ⟨λh1=>?_,λh1=>?_⟩
 ·have h1:¬ at' < 0:=of_decide_eq_false h1
  conv=>whnf
  refine ⟨λh2=>?_,λh2=>?_⟩
  ·have h2:((bs l).size:Int) < at':=of_decide_eq_true h2
   rw [bs_size] at h2
   have e:scan l at'=(0,0,11):=by unfold scan;rw [if_pos (.inr h2)]
   rw [e]
   conv=>whnf
   exact ⟨trivial,fin_drop rfl⟩
  ·have h2:¬ ((bs l).size:Int) < at':=of_decide_eq_false h2
   rw [bs_size] at h2
   obtain ⟨n,rfl⟩:∃ n:Nat,at'=(n:Int):=⟨at'.toNat,by omega⟩
   have hn:n≤l.length:=by omega
   obtain ⟨r,hr⟩:∃ r,l.drop n=r:=⟨_,rfl⟩
   have hrl:r.length=l.length - n:=by rw [← hr];simp
   obtain ⟨q,hqq⟩:∃ q,r.drop (sgn r)=q:=⟨_,rfl⟩
   conv=>whnf
   refine ⟨λh3=>?_,λh3=>?_⟩
   ·have h3:=of_decide_eq_true h3
    rw [bs_size] at h3
    have hb:byteAt (bs l) (n:Int).toNat=((r[0]'(by omega)).toNat:Int):=byte_q (i:=0) hr (by omega)
    conv=>whnf
    refine ⟨λh4=>?_,λh4=>?_⟩
    ·have h4d:=h4
     have h4:=of_decide_eq_true h4
     have hsg:sgn r=1:=by
      rw [hb] at h4
      have h5:=(u8_is 45).1 h4
      unfold sgn
      rw [if_pos]
      rw [List.head?_eq_getElem?,List.getElem?_eq_getElem (by omega),h5]
     have hqq2:r.drop 1=q:=by rw [← hsg];exact hqq
     have hq:l.drop (n+1)=q:=by rw [← hqq2,← hr,List.drop_drop]
     have hql:q.length+(n+1)=l.length:=by rw [← hq,List.length_drop];omega
     conv=>whnf
     refine ⟨⟨⟨trivial,by rw [bs_size];omega⟩,by unfold rng;omega⟩,LoopAt.keep (α:=Nat) [0,7,8] (λi=>[(9,.v (.int .i64 ((n+1+i:Nat):Int)))]) (λi=>i≤q.length∧nd q=i+nd (q.drop i)) (λi=>q.length - i) 0 ⟨Nat.zero_le _,by simp⟩ rfl ⟨⟨rfl,rfl⟩,trivial⟩ ⟨⟨rfl,rfl⟩,⟨rfl,rfl⟩,⟨rfl,rfl⟩,trivial⟩ trivial ?_⟩
     rintro i ⟨hi,hN⟩
     conv=>whnf
     refine ⟨λt1=>?_,λt1=>?_⟩
     ·have t1:=of_decide_eq_true t1
      rw [bs_size] at t1
      have hiq:i < q.length:=by omega
      have hbi:=byte_q hq hiq
      conv=>whnf
      refine ⟨λt2=>?_,λt2=>?_⟩
      ·have t2:=of_decide_eq_true t2
       rw [hbi] at t2
       conv=>whnf
       refine ⟨λt3=>?_,λt3=>?_⟩
       ·have t3:=of_decide_eq_true t3
        rw [hbi] at t3
        have hst:=nd_step hiq (isD_iff.2 (by omega))
        conv=>whnf
        refine ⟨by simp only [bs_size,rng,true_and]<;>omega,Next.keep (i+1) ⟨by omega,by omega⟩ (by omega) ⟨⟨rfl,rfl⟩,trivial⟩ ⟨⟨rfl,rfl⟩,⟨rfl,rfl⟩,⟨rfl,rfl⟩,trivial⟩ trivial rfl rfl rfl⟩
       ·have t3:=of_decide_eq_false t3
        rw [hbi] at t3
        have hst:=nd_stop hiq (by rw [← Bool.not_eq_true,isD_iff];omega)
        have hNi:nd q=i:=by omega
        have hsc:=scan_of hn hr hsg hqq2 hNi
        have hb0:∀ h:0 < q.length,byteAt (bs l) ((n:Int)+1).toNat=(q[0].toNat:Int):=λh=>byte_q (i:=0) hq h
        conv=>whnf
        refine ⟨λu1=>?_,λu1=>?_⟩
        ·have u1:=of_decide_eq_false u1
         have hi0:i≠0:=by omega
         have hq0:0 < q.length:=by omega
         have h48:(byteAt (bs l) ((n:Int)+1).toNat=48)↔q[0]? = some 48:=by
          rw [hb0 hq0,List.getElem?_eq_getElem hq0,Option.some.injEq]
          exact u8_is 48
         conv=>whnf
         refine ⟨λu2=>?_,λu2=>?_⟩
         ·have u2d:=u2
          have u2:=h48.1 (of_decide_eq_true u2)
          conv=>whnf
          refine ⟨λu3=>?_,λu3=>?_⟩
          ·have u3:=of_decide_eq_false u3
           conv=>whnf
           refine iff_t u2d ?_
           conv=>whnf
           refine iff_t h4d ?_
           rw [hsc,if_pos (.inr ⟨u2,.inr (by omega)⟩)]
           conv=>whnf
           exact ⟨by simp only [bs_size,rng,true_and]<;>omega,fin_drop rfl⟩
          ·have u3:=of_decide_eq_true u3
           rw [hsc,if_pos (.inr ⟨u2,.inl (by omega)⟩)]
           conv=>whnf
           exact ⟨by simp only [bs_size,rng,true_and]<;>omega,fin_drop rfl⟩
         ·have u2d:=u2
          have u2:¬ q[0]? = some 48:=λe=>(of_decide_eq_false u2d) (h48.2 e)
          rw [hsc,if_neg (by rintro (e|⟨e,_⟩);exact hi0 e;exact u2 e)]
          conv=>whnf
          refine iff_f u2d ?_
          conv=>whnf
          refine iff_t h4d ?_
          conv=>whnf
          refine ⟨by simp only [bs_size,rng,true_and]<;>omega,LoopAt.keep (α:=Nat) [0,8,9,10] (λk=>[(11,.v (.int .u64 ((dv 0 (q.take k):Nat):Int))),(12,.v (.int .i64 ((n+1+k:Nat):Int)))]) (λk=>k≤i∧dv 0 (q.take k)≤9223372036854775807+1) (λk=>i - k) 0 ⟨Nat.zero_le _,by simp [dv]⟩ rfl ⟨⟨rfl,rfl⟩,⟨rfl,rfl⟩,trivial⟩ ⟨⟨rfl,rfl⟩,⟨rfl,rfl⟩,⟨rfl,rfl⟩,⟨rfl,rfl⟩,trivial⟩ trivial ?_⟩
          rintro k ⟨hk,hv⟩
          conv=>whnf
          refine ⟨λv1=>?_,λv1=>?_⟩
          ·have v1:=of_decide_eq_true v1
           have hki:k < i:=by omega
           have hkq:k < q.length:=by omega
           have hbk:=byte_q hq hkq
           have hDk:=isD_iff.1 (nd_all q q[k] (by rw [hNi];exact List.mem_take_iff_getElem.2 ⟨k,by omega,rfl⟩))
           have hwd:IntKind.u64.wrap (IntKind.u8.wrap (byteAt (bs l) ((n+1+k:Nat):Int).toNat - 48))=((q[k].toNat - 48:Nat):Int):=by
            rw [hbk,IntWalk.u8_in _ (by omega),IntWalk.u64_in _ (by omega)];omega
           have hds:=dv_succ q hkq
           have hdm:=dv_take_le q (show k+1≤i by omega)
           conv=>whnf
           rw [hwd]
           have hM:IntKind.u64.wrap ((9223372036854775808:Int) - ((q[k].toNat - 48:Nat):Int))=(9223372036854775808:Int) - ((q[k].toNat - 48:Nat):Int):=IntWalk.u64_in _ (by omega)
           have hT:((9223372036854775808:Int) - ((q[k].toNat - 48:Nat):Int)).tdiv 10=((9223372036854775808:Int) - ((q[k].toNat - 48:Nat):Int)) / 10:=Int.tdiv_eq_ediv_of_nonneg (by omega)
           rw [hM,hT]
           refine ⟨λv2=>?_,λv2=>?_⟩
           ·have v2:=of_decide_eq_true v2
            rw [if_neg (show ¬ dv 0 (q.take i)≤9223372036854775807+1 by omega)]
            conv=>whnf
            exact ⟨⟨by simp only [bs_size,true_and];omega,by decide,IntWalk.u64_in _ (by omega)⟩,fin_drop rfl⟩
           ·have v2:=of_decide_eq_false v2
            have hS:IntKind.u64.wrap (IntKind.u64.wrap (((dv 0 (q.take k):Nat):Int) * 10)+((q[k].toNat - 48:Nat):Int))=((dv 0 (q.take (k+1)):Nat):Int):=by
             rw [IntWalk.u64_in (((dv 0 (q.take k):Nat):Int) * 10) (by omega),IntWalk.u64_in _ (by omega)];omega
            conv=>whnf
            refine ⟨⟨⟨by simp only [bs_size,true_and];omega,by decide,IntWalk.u64_in _ (by omega)⟩,by unfold rng;omega⟩,Next.keep (k+1) ⟨by omega,by omega⟩ (by omega) ⟨⟨?_,rfl⟩,⟨rfl,rfl⟩,trivial⟩ ⟨⟨rfl,rfl⟩,⟨rfl,rfl⟩,⟨rfl,rfl⟩,⟨rfl,rfl⟩,trivial⟩ trivial rfl rfl rfl⟩
            show some _=some _
            rw [hS]
          ·have v1:=of_decide_eq_false v1
           have hki:k=i:=by omega
           subst hki
           conv=>whnf
           refine iff_t h4d ?_
           rw [if_pos hv]
           have hfin:IntKind.i64.wrap (IntKind.u64.wrap (0 - ((dv 0 (q.take k):Nat):Int)))=(if 1=1 then -((dv 0 (q.take k):Nat):Int) else ((dv 0 (q.take k):Nat):Int)):=by
            simp [IntKind.wrap,IntKind.bits,IntKind.signed];omega
           conv=>whnf
           exact ⟨trivial,fin_drop (by rw [← hfin];rfl)⟩
        ·have u1:=of_decide_eq_true u1
         rw [hsc,if_pos (.inl (by omega))]
         conv=>whnf
         exact ⟨by simp only [bs_size,rng,true_and]<;>omega,fin_drop rfl⟩
      ·have t2:=of_decide_eq_false t2
       rw [hbi] at t2
       have hst:=nd_stop hiq (by rw [← Bool.not_eq_true,isD_iff];omega)
       have hNi:nd q=i:=by omega
       have hsc:=scan_of hn hr hsg hqq2 hNi
       have hb0:∀ h:0 < q.length,byteAt (bs l) ((n:Int)+1).toNat=(q[0].toNat:Int):=λh=>byte_q (i:=0) hq h
       conv=>whnf
       refine ⟨λu1=>?_,λu1=>?_⟩
       ·have u1:=of_decide_eq_false u1
        have hi0:i≠0:=by omega
        have hq0:0 < q.length:=by omega
        have h48:(byteAt (bs l) ((n:Int)+1).toNat=48)↔q[0]? = some 48:=by
         rw [hb0 hq0,List.getElem?_eq_getElem hq0,Option.some.injEq]
         exact u8_is 48
        conv=>whnf
        refine ⟨λu2=>?_,λu2=>?_⟩
        ·have u2d:=u2
         have u2:=h48.1 (of_decide_eq_true u2)
         conv=>whnf
         refine ⟨λu3=>?_,λu3=>?_⟩
         ·have u3:=of_decide_eq_false u3
          conv=>whnf
          refine iff_t u2d ?_
          conv=>whnf
          refine iff_t h4d ?_
          rw [hsc,if_pos (.inr ⟨u2,.inr (by omega)⟩)]
          conv=>whnf
          exact ⟨by simp only [bs_size,rng,true_and]<;>omega,fin_drop rfl⟩
         ·have u3:=of_decide_eq_true u3
          rw [hsc,if_pos (.inr ⟨u2,.inl (by omega)⟩)]
          conv=>whnf
          exact ⟨by simp only [bs_size,rng,true_and]<;>omega,fin_drop rfl⟩
        ·have u2d:=u2
         have u2:¬ q[0]? = some 48:=λe=>(of_decide_eq_false u2d) (h48.2 e)
         rw [hsc,if_neg (by rintro (e|⟨e,_⟩);exact hi0 e;exact u2 e)]
         conv=>whnf
         refine iff_f u2d ?_
         conv=>whnf
         refine iff_t h4d ?_
         conv=>whnf
         refine ⟨by simp only [bs_size,rng,true_and]<;>omega,LoopAt.keep (α:=Nat) [0,8,9,10] (λk=>[(11,.v (.int .u64 ((dv 0 (q.take k):Nat):Int))),(12,.v (.int .i64 ((n+1+k:Nat):Int)))]) (λk=>k≤i∧dv 0 (q.take k)≤9223372036854775807+1) (λk=>i - k) 0 ⟨Nat.zero_le _,by simp [dv]⟩ rfl ⟨⟨rfl,rfl⟩,⟨rfl,rfl⟩,trivial⟩ ⟨⟨rfl,rfl⟩,⟨rfl,rfl⟩,⟨rfl,rfl⟩,⟨rfl,rfl⟩,trivial⟩ trivial ?_⟩
         rintro k ⟨hk,hv⟩
         conv=>whnf
         refine ⟨λv1=>?_,λv1=>?_⟩
         ·have v1:=of_decide_eq_true v1
          have hki:k < i:=by omega
          have hkq:k < q.length:=by omega
          have hbk:=byte_q hq hkq
          have hDk:=isD_iff.1 (nd_all q q[k] (by rw [hNi];exact List.mem_take_iff_getElem.2 ⟨k,by omega,rfl⟩))
          have hwd:IntKind.u64.wrap (IntKind.u8.wrap (byteAt (bs l) ((n+1+k:Nat):Int).toNat - 48))=((q[k].toNat - 48:Nat):Int):=by
           rw [hbk,IntWalk.u8_in _ (by omega),IntWalk.u64_in _ (by omega)];omega
          have hds:=dv_succ q hkq
          have hdm:=dv_take_le q (show k+1≤i by omega)
          conv=>whnf
          rw [hwd]
          have hM:IntKind.u64.wrap ((9223372036854775808:Int) - ((q[k].toNat - 48:Nat):Int))=(9223372036854775808:Int) - ((q[k].toNat - 48:Nat):Int):=IntWalk.u64_in _ (by omega)
          have hT:((9223372036854775808:Int) - ((q[k].toNat - 48:Nat):Int)).tdiv 10=((9223372036854775808:Int) - ((q[k].toNat - 48:Nat):Int)) / 10:=Int.tdiv_eq_ediv_of_nonneg (by omega)
          rw [hM,hT]
          refine ⟨λv2=>?_,λv2=>?_⟩
          ·have v2:=of_decide_eq_true v2
           rw [if_neg (show ¬ dv 0 (q.take i)≤9223372036854775807+1 by omega)]
           conv=>whnf
           exact ⟨⟨by simp only [bs_size,true_and];omega,by decide,IntWalk.u64_in _ (by omega)⟩,fin_drop rfl⟩
          ·have v2:=of_decide_eq_false v2
           have hS:IntKind.u64.wrap (IntKind.u64.wrap (((dv 0 (q.take k):Nat):Int) * 10)+((q[k].toNat - 48:Nat):Int))=((dv 0 (q.take (k+1)):Nat):Int):=by
            rw [IntWalk.u64_in (((dv 0 (q.take k):Nat):Int) * 10) (by omega),IntWalk.u64_in _ (by omega)];omega
           conv=>whnf
           refine ⟨⟨⟨by simp only [bs_size,true_and];omega,by decide,IntWalk.u64_in _ (by omega)⟩,by unfold rng;omega⟩,Next.keep (k+1) ⟨by omega,by omega⟩ (by omega) ⟨⟨?_,rfl⟩,⟨rfl,rfl⟩,trivial⟩ ⟨⟨rfl,rfl⟩,⟨rfl,rfl⟩,⟨rfl,rfl⟩,⟨rfl,rfl⟩,trivial⟩ trivial rfl rfl rfl⟩
           show some _=some _
           rw [hS]
         ·have v1:=of_decide_eq_false v1
          have hki:k=i:=by omega
          subst hki
          conv=>whnf
          refine iff_t h4d ?_
          rw [if_pos hv]
          have hfin:IntKind.i64.wrap (IntKind.u64.wrap (0 - ((dv 0 (q.take k):Nat):Int)))=(if 1=1 then -((dv 0 (q.take k):Nat):Int) else ((dv 0 (q.take k):Nat):Int)):=by
           simp [IntKind.wrap,IntKind.bits,IntKind.signed];omega
          conv=>whnf
          exact ⟨trivial,fin_drop (by rw [← hfin];rfl)⟩
       ·have u1:=of_decide_eq_true u1
        rw [hsc,if_pos (.inl (by omega))]
        conv=>whnf
        exact ⟨by simp only [bs_size,rng,true_and]<;>omega,fin_drop rfl⟩
     ·have t1:=of_decide_eq_false t1
      rw [bs_size] at t1
      have hNi:nd q=i:=by
       have e:q.drop i=[]:=List.drop_eq_nil_of_le (by omega)
       rw [hN,e];rfl
      have hsc:=scan_of hn hr hsg hqq2 hNi
      have hb0:∀ h:0 < q.length,byteAt (bs l) ((n:Int)+1).toNat=(q[0].toNat:Int):=λh=>byte_q (i:=0) hq h
      conv=>whnf
      refine ⟨λu1=>?_,λu1=>?_⟩
      ·have u1:=of_decide_eq_false u1
       have hi0:i≠0:=by omega
       have hq0:0 < q.length:=by omega
       have h48:(byteAt (bs l) ((n:Int)+1).toNat=48)↔q[0]? = some 48:=by
        rw [hb0 hq0,List.getElem?_eq_getElem hq0,Option.some.injEq]
        exact u8_is 48
       conv=>whnf
       refine ⟨λu2=>?_,λu2=>?_⟩
       ·have u2d:=u2
        have u2:=h48.1 (of_decide_eq_true u2)
        conv=>whnf
        refine ⟨λu3=>?_,λu3=>?_⟩
        ·have u3:=of_decide_eq_false u3
         conv=>whnf
         refine iff_t u2d ?_
         conv=>whnf
         refine iff_t h4d ?_
         rw [hsc,if_pos (.inr ⟨u2,.inr (by omega)⟩)]
         conv=>whnf
         exact ⟨by simp only [bs_size,rng,true_and]<;>omega,fin_drop rfl⟩
        ·have u3:=of_decide_eq_true u3
         rw [hsc,if_pos (.inr ⟨u2,.inl (by omega)⟩)]
         conv=>whnf
         exact ⟨by simp only [bs_size,rng,true_and]<;>omega,fin_drop rfl⟩
       ·have u2d:=u2
        have u2:¬ q[0]? = some 48:=λe=>(of_decide_eq_false u2d) (h48.2 e)
        rw [hsc,if_neg (by rintro (e|⟨e,_⟩);exact hi0 e;exact u2 e)]
        conv=>whnf
        refine iff_f u2d ?_
        conv=>whnf
        refine iff_t h4d ?_
        conv=>whnf
        refine ⟨by simp only [bs_size,rng,true_and]<;>omega,LoopAt.keep (α:=Nat) [0,8,9,10] (λk=>[(11,.v (.int .u64 ((dv 0 (q.take k):Nat):Int))),(12,.v (.int .i64 ((n+1+k:Nat):Int)))]) (λk=>k≤i∧dv 0 (q.take k)≤9223372036854775807+1) (λk=>i - k) 0 ⟨Nat.zero_le _,by simp [dv]⟩ rfl ⟨⟨rfl,rfl⟩,⟨rfl,rfl⟩,trivial⟩ ⟨⟨rfl,rfl⟩,⟨rfl,rfl⟩,⟨rfl,rfl⟩,⟨rfl,rfl⟩,trivial⟩ trivial ?_⟩
        rintro k ⟨hk,hv⟩
        conv=>whnf
        refine ⟨λv1=>?_,λv1=>?_⟩
        ·have v1:=of_decide_eq_true v1
         have hki:k < i:=by omega
         have hkq:k < q.length:=by omega
         have hbk:=byte_q hq hkq
         have hDk:=isD_iff.1 (nd_all q q[k] (by rw [hNi];exact List.mem_take_iff_getElem.2 ⟨k,by omega,rfl⟩))
         have hwd:IntKind.u64.wrap (IntKind.u8.wrap (byteAt (bs l) ((n+1+k:Nat):Int).toNat - 48))=((q[k].toNat - 48:Nat):Int):=by
          rw [hbk,IntWalk.u8_in _ (by omega),IntWalk.u64_in _ (by omega)];omega
         have hds:=dv_succ q hkq
         have hdm:=dv_take_le q (show k+1≤i by omega)
         conv=>whnf
         rw [hwd]
         have hM:IntKind.u64.wrap ((9223372036854775808:Int) - ((q[k].toNat - 48:Nat):Int))=(9223372036854775808:Int) - ((q[k].toNat - 48:Nat):Int):=IntWalk.u64_in _ (by omega)
         have hT:((9223372036854775808:Int) - ((q[k].toNat - 48:Nat):Int)).tdiv 10=((9223372036854775808:Int) - ((q[k].toNat - 48:Nat):Int)) / 10:=Int.tdiv_eq_ediv_of_nonneg (by omega)
         rw [hM,hT]
         refine ⟨λv2=>?_,λv2=>?_⟩
         ·have v2:=of_decide_eq_true v2
          rw [if_neg (show ¬ dv 0 (q.take i)≤9223372036854775807+1 by omega)]
          conv=>whnf
          exact ⟨⟨by simp only [bs_size,true_and];omega,by decide,IntWalk.u64_in _ (by omega)⟩,fin_drop rfl⟩
         ·have v2:=of_decide_eq_false v2
          have hS:IntKind.u64.wrap (IntKind.u64.wrap (((dv 0 (q.take k):Nat):Int) * 10)+((q[k].toNat - 48:Nat):Int))=((dv 0 (q.take (k+1)):Nat):Int):=by
           rw [IntWalk.u64_in (((dv 0 (q.take k):Nat):Int) * 10) (by omega),IntWalk.u64_in _ (by omega)];omega
          conv=>whnf
          refine ⟨⟨⟨by simp only [bs_size,true_and];omega,by decide,IntWalk.u64_in _ (by omega)⟩,by unfold rng;omega⟩,Next.keep (k+1) ⟨by omega,by omega⟩ (by omega) ⟨⟨?_,rfl⟩,⟨rfl,rfl⟩,trivial⟩ ⟨⟨rfl,rfl⟩,⟨rfl,rfl⟩,⟨rfl,rfl⟩,⟨rfl,rfl⟩,trivial⟩ trivial rfl rfl rfl⟩
          show some _=some _
          rw [hS]
        ·have v1:=of_decide_eq_false v1
         have hki:k=i:=by omega
         subst hki
         conv=>whnf
         refine iff_t h4d ?_
         rw [if_pos hv]
         have hfin:IntKind.i64.wrap (IntKind.u64.wrap (0 - ((dv 0 (q.take k):Nat):Int)))=(if 1=1 then -((dv 0 (q.take k):Nat):Int) else ((dv 0 (q.take k):Nat):Int)):=by
          simp [IntKind.wrap,IntKind.bits,IntKind.signed];omega
         conv=>whnf
         exact ⟨trivial,fin_drop (by rw [← hfin];rfl)⟩
      ·have u1:=of_decide_eq_true u1
       rw [hsc,if_pos (.inl (by omega))]
       conv=>whnf
       exact ⟨by simp only [bs_size,rng,true_and]<;>omega,fin_drop rfl⟩
    ·have h4d:=h4
     have h4:=of_decide_eq_false h4
     have hsg:sgn r=0:=by
      rw [hb] at h4
      have h5:¬ r[0]=45:=λe=>h4 ((u8_is 45).2 e)
      unfold sgn
      rw [if_neg]
      rw [List.head?_eq_getElem?,List.getElem?_eq_getElem (by omega),Option.some.injEq]
      exact h5
     have hqq2:r.drop 0=q:=by rw [← hsg];exact hqq
     have hq:l.drop (n+0)=q:=by rw [← hqq2,← hr,List.drop_drop]
     have hql:q.length+(n+0)=l.length:=by rw [← hq,List.length_drop];omega
     conv=>whnf
     refine ⟨⟨trivial,by rw [bs_size];omega⟩,LoopAt.keep (α:=Nat) [0,7,8] (λi=>[(9,.v (.int .i64 ((n+0+i:Nat):Int)))]) (λi=>i≤q.length∧nd q=i+nd (q.drop i)) (λi=>q.length - i) 0 ⟨Nat.zero_le _,by simp⟩ rfl ⟨⟨rfl,rfl⟩,trivial⟩ ⟨⟨rfl,rfl⟩,⟨rfl,rfl⟩,⟨rfl,rfl⟩,trivial⟩ trivial ?_⟩
     rintro i ⟨hi,hN⟩
     conv=>whnf
     refine ⟨λt1=>?_,λt1=>?_⟩
     ·have t1:=of_decide_eq_true t1
      rw [bs_size] at t1
      have hiq:i < q.length:=by omega
      have hbi:=byte_q hq hiq
      conv=>whnf
      refine ⟨λt2=>?_,λt2=>?_⟩
      ·have t2:=of_decide_eq_true t2
       rw [hbi] at t2
       conv=>whnf
       refine ⟨λt3=>?_,λt3=>?_⟩
       ·have t3:=of_decide_eq_true t3
        rw [hbi] at t3
        have hst:=nd_step hiq (isD_iff.2 (by omega))
        conv=>whnf
        refine ⟨by simp only [bs_size,rng,true_and]<;>omega,Next.keep (i+1) ⟨by omega,by omega⟩ (by omega) ⟨⟨rfl,rfl⟩,trivial⟩ ⟨⟨rfl,rfl⟩,⟨rfl,rfl⟩,⟨rfl,rfl⟩,trivial⟩ trivial rfl rfl rfl⟩
       ·have t3:=of_decide_eq_false t3
        rw [hbi] at t3
        have hst:=nd_stop hiq (by rw [← Bool.not_eq_true,isD_iff];omega)
        have hNi:nd q=i:=by omega
        have hsc:=scan_of hn hr hsg hqq2 hNi
        have hb0:∀ h:0 < q.length,byteAt (bs l) ((n:Int)).toNat=(q[0].toNat:Int):=λh=>byte_q (i:=0) hq h
        conv=>whnf
        refine ⟨λu1=>?_,λu1=>?_⟩
        ·have u1:=of_decide_eq_false u1
         have hi0:i≠0:=by omega
         have hq0:0 < q.length:=by omega
         have h48:(byteAt (bs l) ((n:Int)).toNat=48)↔q[0]? = some 48:=by
          rw [hb0 hq0,List.getElem?_eq_getElem hq0,Option.some.injEq]
          exact u8_is 48
         conv=>whnf
         refine ⟨λu2=>?_,λu2=>?_⟩
         ·have u2d:=u2
          have u2:=h48.1 (of_decide_eq_true u2)
          conv=>whnf
          refine ⟨λu3=>?_,λu3=>?_⟩
          ·have u3:=of_decide_eq_false u3
           conv=>whnf
           refine iff_t u2d ?_
           conv=>whnf
           refine iff_f h4d ?_
           rw [hsc,if_neg (by rintro (e|⟨_,e⟩)<;>omega)]
           conv=>whnf
           refine iff_f h4d ?_
           conv=>whnf
           refine ⟨by simp only [bs_size,rng,true_and]<;>omega,LoopAt.keep (α:=Nat) [0,8,9,10] (λk=>[(11,.v (.int .u64 ((dv 0 (q.take k):Nat):Int))),(12,.v (.int .i64 ((n+0+k:Nat):Int)))]) (λk=>k≤i∧dv 0 (q.take k)≤9223372036854775807+0) (λk=>i - k) 0 ⟨Nat.zero_le _,by simp [dv]⟩ rfl ⟨⟨rfl,rfl⟩,⟨rfl,rfl⟩,trivial⟩ ⟨⟨rfl,rfl⟩,⟨rfl,rfl⟩,⟨rfl,rfl⟩,⟨rfl,rfl⟩,trivial⟩ trivial ?_⟩
           rintro k ⟨hk,hv⟩
           conv=>whnf
           refine ⟨λv1=>?_,λv1=>?_⟩
           ·have v1:=of_decide_eq_true v1
            have hki:k < i:=by omega
            have hkq:k < q.length:=by omega
            have hbk:=byte_q hq hkq
            have hDk:=isD_iff.1 (nd_all q q[k] (by rw [hNi];exact List.mem_take_iff_getElem.2 ⟨k,by omega,rfl⟩))
            have hwd:IntKind.u64.wrap (IntKind.u8.wrap (byteAt (bs l) ((n+0+k:Nat):Int).toNat - 48))=((q[k].toNat - 48:Nat):Int):=by
             rw [hbk,IntWalk.u8_in _ (by omega),IntWalk.u64_in _ (by omega)];omega
            have hds:=dv_succ q hkq
            have hdm:=dv_take_le q (show k+1≤i by omega)
            conv=>whnf
            rw [hwd]
            have hM:IntKind.u64.wrap ((9223372036854775807:Int) - ((q[k].toNat - 48:Nat):Int))=(9223372036854775807:Int) - ((q[k].toNat - 48:Nat):Int):=IntWalk.u64_in _ (by omega)
            have hT:((9223372036854775807:Int) - ((q[k].toNat - 48:Nat):Int)).tdiv 10=((9223372036854775807:Int) - ((q[k].toNat - 48:Nat):Int)) / 10:=Int.tdiv_eq_ediv_of_nonneg (by omega)
            rw [hM,hT]
            refine ⟨λv2=>?_,λv2=>?_⟩
            ·have v2:=of_decide_eq_true v2
             rw [if_neg (show ¬ dv 0 (q.take i)≤9223372036854775807+0 by omega)]
             conv=>whnf
             exact ⟨⟨by simp only [bs_size,true_and];omega,by decide,IntWalk.u64_in _ (by omega)⟩,fin_drop rfl⟩
            ·have v2:=of_decide_eq_false v2
             have hS:IntKind.u64.wrap (IntKind.u64.wrap (((dv 0 (q.take k):Nat):Int) * 10)+((q[k].toNat - 48:Nat):Int))=((dv 0 (q.take (k+1)):Nat):Int):=by
              rw [IntWalk.u64_in (((dv 0 (q.take k):Nat):Int) * 10) (by omega),IntWalk.u64_in _ (by omega)];omega
             conv=>whnf
             refine ⟨⟨⟨by simp only [bs_size,true_and];omega,by decide,IntWalk.u64_in _ (by omega)⟩,by unfold rng;omega⟩,Next.keep (k+1) ⟨by omega,by omega⟩ (by omega) ⟨⟨?_,rfl⟩,⟨rfl,rfl⟩,trivial⟩ ⟨⟨rfl,rfl⟩,⟨rfl,rfl⟩,⟨rfl,rfl⟩,⟨rfl,rfl⟩,trivial⟩ trivial rfl rfl rfl⟩
             show some _=some _
             rw [hS]
           ·have v1:=of_decide_eq_false v1
            have hki:k=i:=by omega
            subst hki
            conv=>whnf
            refine iff_f h4d ?_
            rw [if_pos hv]
            have hfin:IntKind.i64.wrap ((dv 0 (q.take k):Nat):Int)=(if 0=1 then -((dv 0 (q.take k):Nat):Int) else ((dv 0 (q.take k):Nat):Int)):=by
             simp [IntKind.wrap,IntKind.bits,IntKind.signed];omega
            conv=>whnf
            exact ⟨trivial,fin_drop (by rw [← hfin];rfl)⟩
          ·have u3:=of_decide_eq_true u3
           rw [hsc,if_pos (.inr ⟨u2,.inl (by omega)⟩)]
           conv=>whnf
           exact ⟨by simp only [bs_size,rng,true_and]<;>omega,fin_drop rfl⟩
         ·have u2d:=u2
          have u2:¬ q[0]? = some 48:=λe=>(of_decide_eq_false u2d) (h48.2 e)
          rw [hsc,if_neg (by rintro (e|⟨e,_⟩);exact hi0 e;exact u2 e)]
          conv=>whnf
          refine iff_f u2d ?_
          conv=>whnf
          refine iff_f h4d ?_
          conv=>whnf
          refine ⟨by simp only [bs_size,rng,true_and]<;>omega,LoopAt.keep (α:=Nat) [0,8,9,10] (λk=>[(11,.v (.int .u64 ((dv 0 (q.take k):Nat):Int))),(12,.v (.int .i64 ((n+0+k:Nat):Int)))]) (λk=>k≤i∧dv 0 (q.take k)≤9223372036854775807+0) (λk=>i - k) 0 ⟨Nat.zero_le _,by simp [dv]⟩ rfl ⟨⟨rfl,rfl⟩,⟨rfl,rfl⟩,trivial⟩ ⟨⟨rfl,rfl⟩,⟨rfl,rfl⟩,⟨rfl,rfl⟩,⟨rfl,rfl⟩,trivial⟩ trivial ?_⟩
          rintro k ⟨hk,hv⟩
          conv=>whnf
          refine ⟨λv1=>?_,λv1=>?_⟩
          ·have v1:=of_decide_eq_true v1
           have hki:k < i:=by omega
           have hkq:k < q.length:=by omega
           have hbk:=byte_q hq hkq
           have hDk:=isD_iff.1 (nd_all q q[k] (by rw [hNi];exact List.mem_take_iff_getElem.2 ⟨k,by omega,rfl⟩))
           have hwd:IntKind.u64.wrap (IntKind.u8.wrap (byteAt (bs l) ((n+0+k:Nat):Int).toNat - 48))=((q[k].toNat - 48:Nat):Int):=by
            rw [hbk,IntWalk.u8_in _ (by omega),IntWalk.u64_in _ (by omega)];omega
           have hds:=dv_succ q hkq
           have hdm:=dv_take_le q (show k+1≤i by omega)
           conv=>whnf
           rw [hwd]
           have hM:IntKind.u64.wrap ((9223372036854775807:Int) - ((q[k].toNat - 48:Nat):Int))=(9223372036854775807:Int) - ((q[k].toNat - 48:Nat):Int):=IntWalk.u64_in _ (by omega)
           have hT:((9223372036854775807:Int) - ((q[k].toNat - 48:Nat):Int)).tdiv 10=((9223372036854775807:Int) - ((q[k].toNat - 48:Nat):Int)) / 10:=Int.tdiv_eq_ediv_of_nonneg (by omega)
           rw [hM,hT]
           refine ⟨λv2=>?_,λv2=>?_⟩
           ·have v2:=of_decide_eq_true v2
            rw [if_neg (show ¬ dv 0 (q.take i)≤9223372036854775807+0 by omega)]
            conv=>whnf
            exact ⟨⟨by simp only [bs_size,true_and];omega,by decide,IntWalk.u64_in _ (by omega)⟩,fin_drop rfl⟩
           ·have v2:=of_decide_eq_false v2
            have hS:IntKind.u64.wrap (IntKind.u64.wrap (((dv 0 (q.take k):Nat):Int) * 10)+((q[k].toNat - 48:Nat):Int))=((dv 0 (q.take (k+1)):Nat):Int):=by
             rw [IntWalk.u64_in (((dv 0 (q.take k):Nat):Int) * 10) (by omega),IntWalk.u64_in _ (by omega)];omega
            conv=>whnf
            refine ⟨⟨⟨by simp only [bs_size,true_and];omega,by decide,IntWalk.u64_in _ (by omega)⟩,by unfold rng;omega⟩,Next.keep (k+1) ⟨by omega,by omega⟩ (by omega) ⟨⟨?_,rfl⟩,⟨rfl,rfl⟩,trivial⟩ ⟨⟨rfl,rfl⟩,⟨rfl,rfl⟩,⟨rfl,rfl⟩,⟨rfl,rfl⟩,trivial⟩ trivial rfl rfl rfl⟩
            show some _=some _
            rw [hS]
          ·have v1:=of_decide_eq_false v1
           have hki:k=i:=by omega
           subst hki
           conv=>whnf
           refine iff_f h4d ?_
           rw [if_pos hv]
           have hfin:IntKind.i64.wrap ((dv 0 (q.take k):Nat):Int)=(if 0=1 then -((dv 0 (q.take k):Nat):Int) else ((dv 0 (q.take k):Nat):Int)):=by
            simp [IntKind.wrap,IntKind.bits,IntKind.signed];omega
           conv=>whnf
           exact ⟨trivial,fin_drop (by rw [← hfin];rfl)⟩
        ·have u1:=of_decide_eq_true u1
         rw [hsc,if_pos (.inl (by omega))]
         conv=>whnf
         exact ⟨by simp only [bs_size,rng,true_and]<;>omega,fin_drop rfl⟩
      ·have t2:=of_decide_eq_false t2
       rw [hbi] at t2
       have hst:=nd_stop hiq (by rw [← Bool.not_eq_true,isD_iff];omega)
       have hNi:nd q=i:=by omega
       have hsc:=scan_of hn hr hsg hqq2 hNi
       have hb0:∀ h:0 < q.length,byteAt (bs l) ((n:Int)).toNat=(q[0].toNat:Int):=λh=>byte_q (i:=0) hq h
       conv=>whnf
       refine ⟨λu1=>?_,λu1=>?_⟩
       ·have u1:=of_decide_eq_false u1
        have hi0:i≠0:=by omega
        have hq0:0 < q.length:=by omega
        have h48:(byteAt (bs l) ((n:Int)).toNat=48)↔q[0]? = some 48:=by
         rw [hb0 hq0,List.getElem?_eq_getElem hq0,Option.some.injEq]
         exact u8_is 48
        conv=>whnf
        refine ⟨λu2=>?_,λu2=>?_⟩
        ·have u2d:=u2
         have u2:=h48.1 (of_decide_eq_true u2)
         conv=>whnf
         refine ⟨λu3=>?_,λu3=>?_⟩
         ·have u3:=of_decide_eq_false u3
          conv=>whnf
          refine iff_t u2d ?_
          conv=>whnf
          refine iff_f h4d ?_
          rw [hsc,if_neg (by rintro (e|⟨_,e⟩)<;>omega)]
          conv=>whnf
          refine iff_f h4d ?_
          conv=>whnf
          refine ⟨by simp only [bs_size,rng,true_and]<;>omega,LoopAt.keep (α:=Nat) [0,8,9,10] (λk=>[(11,.v (.int .u64 ((dv 0 (q.take k):Nat):Int))),(12,.v (.int .i64 ((n+0+k:Nat):Int)))]) (λk=>k≤i∧dv 0 (q.take k)≤9223372036854775807+0) (λk=>i - k) 0 ⟨Nat.zero_le _,by simp [dv]⟩ rfl ⟨⟨rfl,rfl⟩,⟨rfl,rfl⟩,trivial⟩ ⟨⟨rfl,rfl⟩,⟨rfl,rfl⟩,⟨rfl,rfl⟩,⟨rfl,rfl⟩,trivial⟩ trivial ?_⟩
          rintro k ⟨hk,hv⟩
          conv=>whnf
          refine ⟨λv1=>?_,λv1=>?_⟩
          ·have v1:=of_decide_eq_true v1
           have hki:k < i:=by omega
           have hkq:k < q.length:=by omega
           have hbk:=byte_q hq hkq
           have hDk:=isD_iff.1 (nd_all q q[k] (by rw [hNi];exact List.mem_take_iff_getElem.2 ⟨k,by omega,rfl⟩))
           have hwd:IntKind.u64.wrap (IntKind.u8.wrap (byteAt (bs l) ((n+0+k:Nat):Int).toNat - 48))=((q[k].toNat - 48:Nat):Int):=by
            rw [hbk,IntWalk.u8_in _ (by omega),IntWalk.u64_in _ (by omega)];omega
           have hds:=dv_succ q hkq
           have hdm:=dv_take_le q (show k+1≤i by omega)
           conv=>whnf
           rw [hwd]
           have hM:IntKind.u64.wrap ((9223372036854775807:Int) - ((q[k].toNat - 48:Nat):Int))=(9223372036854775807:Int) - ((q[k].toNat - 48:Nat):Int):=IntWalk.u64_in _ (by omega)
           have hT:((9223372036854775807:Int) - ((q[k].toNat - 48:Nat):Int)).tdiv 10=((9223372036854775807:Int) - ((q[k].toNat - 48:Nat):Int)) / 10:=Int.tdiv_eq_ediv_of_nonneg (by omega)
           rw [hM,hT]
           refine ⟨λv2=>?_,λv2=>?_⟩
           ·have v2:=of_decide_eq_true v2
            rw [if_neg (show ¬ dv 0 (q.take i)≤9223372036854775807+0 by omega)]
            conv=>whnf
            exact ⟨⟨by simp only [bs_size,true_and];omega,by decide,IntWalk.u64_in _ (by omega)⟩,fin_drop rfl⟩
           ·have v2:=of_decide_eq_false v2
            have hS:IntKind.u64.wrap (IntKind.u64.wrap (((dv 0 (q.take k):Nat):Int) * 10)+((q[k].toNat - 48:Nat):Int))=((dv 0 (q.take (k+1)):Nat):Int):=by
             rw [IntWalk.u64_in (((dv 0 (q.take k):Nat):Int) * 10) (by omega),IntWalk.u64_in _ (by omega)];omega
            conv=>whnf
            refine ⟨⟨⟨by simp only [bs_size,true_and];omega,by decide,IntWalk.u64_in _ (by omega)⟩,by unfold rng;omega⟩,Next.keep (k+1) ⟨by omega,by omega⟩ (by omega) ⟨⟨?_,rfl⟩,⟨rfl,rfl⟩,trivial⟩ ⟨⟨rfl,rfl⟩,⟨rfl,rfl⟩,⟨rfl,rfl⟩,⟨rfl,rfl⟩,trivial⟩ trivial rfl rfl rfl⟩
            show some _=some _
            rw [hS]
          ·have v1:=of_decide_eq_false v1
           have hki:k=i:=by omega
           subst hki
           conv=>whnf
           refine iff_f h4d ?_
           rw [if_pos hv]
           have hfin:IntKind.i64.wrap ((dv 0 (q.take k):Nat):Int)=(if 0=1 then -((dv 0 (q.take k):Nat):Int) else ((dv 0 (q.take k):Nat):Int)):=by
            simp [IntKind.wrap,IntKind.bits,IntKind.signed];omega
           conv=>whnf
           exact ⟨trivial,fin_drop (by rw [← hfin];rfl)⟩
         ·have u3:=of_decide_eq_true u3
          rw [hsc,if_pos (.inr ⟨u2,.inl (by omega)⟩)]
          conv=>whnf
          exact ⟨by simp only [bs_size,rng,true_and]<;>omega,fin_drop rfl⟩
        ·have u2d:=u2
         have u2:¬ q[0]? = some 48:=λe=>(of_decide_eq_false u2d) (h48.2 e)
         rw [hsc,if_neg (by rintro (e|⟨e,_⟩);exact hi0 e;exact u2 e)]
         conv=>whnf
         refine iff_f u2d ?_
         conv=>whnf
         refine iff_f h4d ?_
         conv=>whnf
         refine ⟨by simp only [bs_size,rng,true_and]<;>omega,LoopAt.keep (α:=Nat) [0,8,9,10] (λk=>[(11,.v (.int .u64 ((dv 0 (q.take k):Nat):Int))),(12,.v (.int .i64 ((n+0+k:Nat):Int)))]) (λk=>k≤i∧dv 0 (q.take k)≤9223372036854775807+0) (λk=>i - k) 0 ⟨Nat.zero_le _,by simp [dv]⟩ rfl ⟨⟨rfl,rfl⟩,⟨rfl,rfl⟩,trivial⟩ ⟨⟨rfl,rfl⟩,⟨rfl,rfl⟩,⟨rfl,rfl⟩,⟨rfl,rfl⟩,trivial⟩ trivial ?_⟩
         rintro k ⟨hk,hv⟩
         conv=>whnf
         refine ⟨λv1=>?_,λv1=>?_⟩
         ·have v1:=of_decide_eq_true v1
          have hki:k < i:=by omega
          have hkq:k < q.length:=by omega
          have hbk:=byte_q hq hkq
          have hDk:=isD_iff.1 (nd_all q q[k] (by rw [hNi];exact List.mem_take_iff_getElem.2 ⟨k,by omega,rfl⟩))
          have hwd:IntKind.u64.wrap (IntKind.u8.wrap (byteAt (bs l) ((n+0+k:Nat):Int).toNat - 48))=((q[k].toNat - 48:Nat):Int):=by
           rw [hbk,IntWalk.u8_in _ (by omega),IntWalk.u64_in _ (by omega)];omega
          have hds:=dv_succ q hkq
          have hdm:=dv_take_le q (show k+1≤i by omega)
          conv=>whnf
          rw [hwd]
          have hM:IntKind.u64.wrap ((9223372036854775807:Int) - ((q[k].toNat - 48:Nat):Int))=(9223372036854775807:Int) - ((q[k].toNat - 48:Nat):Int):=IntWalk.u64_in _ (by omega)
          have hT:((9223372036854775807:Int) - ((q[k].toNat - 48:Nat):Int)).tdiv 10=((9223372036854775807:Int) - ((q[k].toNat - 48:Nat):Int)) / 10:=Int.tdiv_eq_ediv_of_nonneg (by omega)
          rw [hM,hT]
          refine ⟨λv2=>?_,λv2=>?_⟩
          ·have v2:=of_decide_eq_true v2
           rw [if_neg (show ¬ dv 0 (q.take i)≤9223372036854775807+0 by omega)]
           conv=>whnf
           exact ⟨⟨by simp only [bs_size,true_and];omega,by decide,IntWalk.u64_in _ (by omega)⟩,fin_drop rfl⟩
          ·have v2:=of_decide_eq_false v2
           have hS:IntKind.u64.wrap (IntKind.u64.wrap (((dv 0 (q.take k):Nat):Int) * 10)+((q[k].toNat - 48:Nat):Int))=((dv 0 (q.take (k+1)):Nat):Int):=by
            rw [IntWalk.u64_in (((dv 0 (q.take k):Nat):Int) * 10) (by omega),IntWalk.u64_in _ (by omega)];omega
           conv=>whnf
           refine ⟨⟨⟨by simp only [bs_size,true_and];omega,by decide,IntWalk.u64_in _ (by omega)⟩,by unfold rng;omega⟩,Next.keep (k+1) ⟨by omega,by omega⟩ (by omega) ⟨⟨?_,rfl⟩,⟨rfl,rfl⟩,trivial⟩ ⟨⟨rfl,rfl⟩,⟨rfl,rfl⟩,⟨rfl,rfl⟩,⟨rfl,rfl⟩,trivial⟩ trivial rfl rfl rfl⟩
           show some _=some _
           rw [hS]
         ·have v1:=of_decide_eq_false v1
          have hki:k=i:=by omega
          subst hki
          conv=>whnf
          refine iff_f h4d ?_
          rw [if_pos hv]
          have hfin:IntKind.i64.wrap ((dv 0 (q.take k):Nat):Int)=(if 0=1 then -((dv 0 (q.take k):Nat):Int) else ((dv 0 (q.take k):Nat):Int)):=by
           simp [IntKind.wrap,IntKind.bits,IntKind.signed];omega
          conv=>whnf
          exact ⟨trivial,fin_drop (by rw [← hfin];rfl)⟩
       ·have u1:=of_decide_eq_true u1
        rw [hsc,if_pos (.inl (by omega))]
        conv=>whnf
        exact ⟨by simp only [bs_size,rng,true_and]<;>omega,fin_drop rfl⟩
     ·have t1:=of_decide_eq_false t1
      rw [bs_size] at t1
      have hNi:nd q=i:=by
       have e:q.drop i=[]:=List.drop_eq_nil_of_le (by omega)
       rw [hN,e];rfl
      have hsc:=scan_of hn hr hsg hqq2 hNi
      have hb0:∀ h:0 < q.length,byteAt (bs l) ((n:Int)).toNat=(q[0].toNat:Int):=λh=>byte_q (i:=0) hq h
      conv=>whnf
      refine ⟨λu1=>?_,λu1=>?_⟩
      ·have u1:=of_decide_eq_false u1
       have hi0:i≠0:=by omega
       have hq0:0 < q.length:=by omega
       have h48:(byteAt (bs l) ((n:Int)).toNat=48)↔q[0]? = some 48:=by
        rw [hb0 hq0,List.getElem?_eq_getElem hq0,Option.some.injEq]
        exact u8_is 48
       conv=>whnf
       refine ⟨λu2=>?_,λu2=>?_⟩
       ·have u2d:=u2
        have u2:=h48.1 (of_decide_eq_true u2)
        conv=>whnf
        refine ⟨λu3=>?_,λu3=>?_⟩
        ·have u3:=of_decide_eq_false u3
         conv=>whnf
         refine iff_t u2d ?_
         conv=>whnf
         refine iff_f h4d ?_
         rw [hsc,if_neg (by rintro (e|⟨_,e⟩)<;>omega)]
         conv=>whnf
         refine iff_f h4d ?_
         conv=>whnf
         refine ⟨by simp only [bs_size,rng,true_and]<;>omega,LoopAt.keep (α:=Nat) [0,8,9,10] (λk=>[(11,.v (.int .u64 ((dv 0 (q.take k):Nat):Int))),(12,.v (.int .i64 ((n+0+k:Nat):Int)))]) (λk=>k≤i∧dv 0 (q.take k)≤9223372036854775807+0) (λk=>i - k) 0 ⟨Nat.zero_le _,by simp [dv]⟩ rfl ⟨⟨rfl,rfl⟩,⟨rfl,rfl⟩,trivial⟩ ⟨⟨rfl,rfl⟩,⟨rfl,rfl⟩,⟨rfl,rfl⟩,⟨rfl,rfl⟩,trivial⟩ trivial ?_⟩
         rintro k ⟨hk,hv⟩
         conv=>whnf
         refine ⟨λv1=>?_,λv1=>?_⟩
         ·have v1:=of_decide_eq_true v1
          have hki:k < i:=by omega
          have hkq:k < q.length:=by omega
          have hbk:=byte_q hq hkq
          have hDk:=isD_iff.1 (nd_all q q[k] (by rw [hNi];exact List.mem_take_iff_getElem.2 ⟨k,by omega,rfl⟩))
          have hwd:IntKind.u64.wrap (IntKind.u8.wrap (byteAt (bs l) ((n+0+k:Nat):Int).toNat - 48))=((q[k].toNat - 48:Nat):Int):=by
           rw [hbk,IntWalk.u8_in _ (by omega),IntWalk.u64_in _ (by omega)];omega
          have hds:=dv_succ q hkq
          have hdm:=dv_take_le q (show k+1≤i by omega)
          conv=>whnf
          rw [hwd]
          have hM:IntKind.u64.wrap ((9223372036854775807:Int) - ((q[k].toNat - 48:Nat):Int))=(9223372036854775807:Int) - ((q[k].toNat - 48:Nat):Int):=IntWalk.u64_in _ (by omega)
          have hT:((9223372036854775807:Int) - ((q[k].toNat - 48:Nat):Int)).tdiv 10=((9223372036854775807:Int) - ((q[k].toNat - 48:Nat):Int)) / 10:=Int.tdiv_eq_ediv_of_nonneg (by omega)
          rw [hM,hT]
          refine ⟨λv2=>?_,λv2=>?_⟩
          ·have v2:=of_decide_eq_true v2
           rw [if_neg (show ¬ dv 0 (q.take i)≤9223372036854775807+0 by omega)]
           conv=>whnf
           exact ⟨⟨by simp only [bs_size,true_and];omega,by decide,IntWalk.u64_in _ (by omega)⟩,fin_drop rfl⟩
          ·have v2:=of_decide_eq_false v2
           have hS:IntKind.u64.wrap (IntKind.u64.wrap (((dv 0 (q.take k):Nat):Int) * 10)+((q[k].toNat - 48:Nat):Int))=((dv 0 (q.take (k+1)):Nat):Int):=by
            rw [IntWalk.u64_in (((dv 0 (q.take k):Nat):Int) * 10) (by omega),IntWalk.u64_in _ (by omega)];omega
           conv=>whnf
           refine ⟨⟨⟨by simp only [bs_size,true_and];omega,by decide,IntWalk.u64_in _ (by omega)⟩,by unfold rng;omega⟩,Next.keep (k+1) ⟨by omega,by omega⟩ (by omega) ⟨⟨?_,rfl⟩,⟨rfl,rfl⟩,trivial⟩ ⟨⟨rfl,rfl⟩,⟨rfl,rfl⟩,⟨rfl,rfl⟩,⟨rfl,rfl⟩,trivial⟩ trivial rfl rfl rfl⟩
           show some _=some _
           rw [hS]
         ·have v1:=of_decide_eq_false v1
          have hki:k=i:=by omega
          subst hki
          conv=>whnf
          refine iff_f h4d ?_
          rw [if_pos hv]
          have hfin:IntKind.i64.wrap ((dv 0 (q.take k):Nat):Int)=(if 0=1 then -((dv 0 (q.take k):Nat):Int) else ((dv 0 (q.take k):Nat):Int)):=by
           simp [IntKind.wrap,IntKind.bits,IntKind.signed];omega
          conv=>whnf
          exact ⟨trivial,fin_drop (by rw [← hfin];rfl)⟩
        ·have u3:=of_decide_eq_true u3
         rw [hsc,if_pos (.inr ⟨u2,.inl (by omega)⟩)]
         conv=>whnf
         exact ⟨by simp only [bs_size,rng,true_and]<;>omega,fin_drop rfl⟩
       ·have u2d:=u2
        have u2:¬ q[0]? = some 48:=λe=>(of_decide_eq_false u2d) (h48.2 e)
        rw [hsc,if_neg (by rintro (e|⟨e,_⟩);exact hi0 e;exact u2 e)]
        conv=>whnf
        refine iff_f u2d ?_
        conv=>whnf
        refine iff_f h4d ?_
        conv=>whnf
        refine ⟨by simp only [bs_size,rng,true_and]<;>omega,LoopAt.keep (α:=Nat) [0,8,9,10] (λk=>[(11,.v (.int .u64 ((dv 0 (q.take k):Nat):Int))),(12,.v (.int .i64 ((n+0+k:Nat):Int)))]) (λk=>k≤i∧dv 0 (q.take k)≤9223372036854775807+0) (λk=>i - k) 0 ⟨Nat.zero_le _,by simp [dv]⟩ rfl ⟨⟨rfl,rfl⟩,⟨rfl,rfl⟩,trivial⟩ ⟨⟨rfl,rfl⟩,⟨rfl,rfl⟩,⟨rfl,rfl⟩,⟨rfl,rfl⟩,trivial⟩ trivial ?_⟩
        rintro k ⟨hk,hv⟩
        conv=>whnf
        refine ⟨λv1=>?_,λv1=>?_⟩
        ·have v1:=of_decide_eq_true v1
         have hki:k < i:=by omega
         have hkq:k < q.length:=by omega
         have hbk:=byte_q hq hkq
         have hDk:=isD_iff.1 (nd_all q q[k] (by rw [hNi];exact List.mem_take_iff_getElem.2 ⟨k,by omega,rfl⟩))
         have hwd:IntKind.u64.wrap (IntKind.u8.wrap (byteAt (bs l) ((n+0+k:Nat):Int).toNat - 48))=((q[k].toNat - 48:Nat):Int):=by
          rw [hbk,IntWalk.u8_in _ (by omega),IntWalk.u64_in _ (by omega)];omega
         have hds:=dv_succ q hkq
         have hdm:=dv_take_le q (show k+1≤i by omega)
         conv=>whnf
         rw [hwd]
         have hM:IntKind.u64.wrap ((9223372036854775807:Int) - ((q[k].toNat - 48:Nat):Int))=(9223372036854775807:Int) - ((q[k].toNat - 48:Nat):Int):=IntWalk.u64_in _ (by omega)
         have hT:((9223372036854775807:Int) - ((q[k].toNat - 48:Nat):Int)).tdiv 10=((9223372036854775807:Int) - ((q[k].toNat - 48:Nat):Int)) / 10:=Int.tdiv_eq_ediv_of_nonneg (by omega)
         rw [hM,hT]
         refine ⟨λv2=>?_,λv2=>?_⟩
         ·have v2:=of_decide_eq_true v2
          rw [if_neg (show ¬ dv 0 (q.take i)≤9223372036854775807+0 by omega)]
          conv=>whnf
          exact ⟨⟨by simp only [bs_size,true_and];omega,by decide,IntWalk.u64_in _ (by omega)⟩,fin_drop rfl⟩
         ·have v2:=of_decide_eq_false v2
          have hS:IntKind.u64.wrap (IntKind.u64.wrap (((dv 0 (q.take k):Nat):Int) * 10)+((q[k].toNat - 48:Nat):Int))=((dv 0 (q.take (k+1)):Nat):Int):=by
           rw [IntWalk.u64_in (((dv 0 (q.take k):Nat):Int) * 10) (by omega),IntWalk.u64_in _ (by omega)];omega
          conv=>whnf
          refine ⟨⟨⟨by simp only [bs_size,true_and];omega,by decide,IntWalk.u64_in _ (by omega)⟩,by unfold rng;omega⟩,Next.keep (k+1) ⟨by omega,by omega⟩ (by omega) ⟨⟨?_,rfl⟩,⟨rfl,rfl⟩,trivial⟩ ⟨⟨rfl,rfl⟩,⟨rfl,rfl⟩,⟨rfl,rfl⟩,⟨rfl,rfl⟩,trivial⟩ trivial rfl rfl rfl⟩
          show some _=some _
          rw [hS]
        ·have v1:=of_decide_eq_false v1
         have hki:k=i:=by omega
         subst hki
         conv=>whnf
         refine iff_f h4d ?_
         rw [if_pos hv]
         have hfin:IntKind.i64.wrap ((dv 0 (q.take k):Nat):Int)=(if 0=1 then -((dv 0 (q.take k):Nat):Int) else ((dv 0 (q.take k):Nat):Int)):=by
          simp [IntKind.wrap,IntKind.bits,IntKind.signed];omega
         conv=>whnf
         exact ⟨trivial,fin_drop (by rw [← hfin];rfl)⟩
      ·have u1:=of_decide_eq_true u1
       rw [hsc,if_pos (.inl (by omega))]
       conv=>whnf
       exact ⟨by simp only [bs_size,rng,true_and]<;>omega,fin_drop rfl⟩
   ·have h3:=of_decide_eq_false h3
    rw [bs_size] at h3
    have hsg:sgn r=0:=by
     have:r=[]:=List.eq_nil_of_length_eq_zero (by omega)
     rw [this];rfl
    have hq0:q.length=0:=by rw [← hqq,List.length_drop];omega
    conv=>whnf
    refine ⟨trivial,LoopAt.keep (α:=Nat) [0,7,8] (λi=>[(9,.v (.int .i64 ((n+i:Nat):Int)))]) (λi=>i=0) (λi=>i) 0 rfl rfl ⟨⟨rfl,rfl⟩,trivial⟩ ⟨⟨rfl,rfl⟩,⟨rfl,rfl⟩,⟨rfl,rfl⟩,trivial⟩ trivial ?_⟩
    rintro i rfl
    have hsc:=scan_of (q:=q) hn hr hsg (by rw [← hsg];exact hqq) (i:=0) (by rw [List.eq_nil_of_length_eq_zero hq0];rfl)
    conv=>whnf
    refine ⟨λt1=>?_,λt1=>?_⟩
    ·have t1:=of_decide_eq_true t1
     rw [bs_size] at t1
     exfalso;omega
    ·conv=>whnf
     refine ⟨λu1=>?_,λu1=>?_⟩
     ·have u1:=of_decide_eq_false u1
      exfalso;omega
     ·rw [hsc,if_pos (.inl rfl)]
      conv=>whnf
      exact ⟨trivial,fin_drop rfl⟩
 ·have h1:at' < 0:=of_decide_eq_true h1
  have e:scan l at'=(0,0,11):=by unfold scan;rw [if_pos (.inl h1)]
  rw [e]
  conv=>whnf
  exact ⟨trivial,fin_drop rfl⟩
theorem scan_end {l:List UInt8} (x:Int × Int × Int) (h:scan l 0=x):x.2.1≤l.length:=by
 unfold scan at h
 split at h
 ·subst h;simp
 ·simp only [Int.toNat_zero,List.drop_zero] at h
  split at h
  ·subst h;simp
  ·have h1:=sgn_le l
   have h2:=nd_le (l.drop (sgn l))
   rw [List.length_drop] at h2
   unfold numOf at h
   split at h
   ·subst h;simp only;omega
   ·subst h;simp
theorem sRefRead {R:HP} (l:List UInt8) (hl:l.length≤1048576):PureR Tryz.prog R 29 [.string (bs l)] (.tuple #[.int .i64 (read l).1,.int .i64 (read l).2]):=by
 obtain ⟨x,hx⟩:∃ x,scan l 0=x:=⟨_,rfl⟩
 have he:=scan_end x hx
 have hr:read l=(if x.2.2≠0 then (0,x.2.2) else if x.2.1 < l.length then (0,12) else (x.1,0)):=by unfold read;rw [hx]
 refine fn_of_run0 true Tryz.func29 rfl hmix rfl λw0=>?_
 conv=>whnf
 refine ⟨trivial,CallAt.pure (v:=scanV x) (λR' hR'=>by rw [← hx];exact sRefScan l hl 0) ?_⟩
 obtain ⟨a,b,c⟩:=x
 simp only at hr he
 conv=>whnf
 refine ⟨λh1=>?_,λh1=>?_⟩
 ·have h1:c≠0:=by simpa using h1
  rw [hr,if_pos h1]
  conv=>whnf
  exact ⟨trivial,fin_drop rfl⟩
 ·have h1:c=0:=by simpa using h1
  rw [hr,if_neg (by simpa using h1)]
  conv=>whnf
  refine ⟨λh2=>?_,λh2=>?_⟩
  ·have h2:b≠((bs l).size:Int):=by simpa using h2
   rw [bs_size] at h2
   rw [if_pos (by omega)]
   conv=>whnf
   exact ⟨trivial,fin_drop rfl⟩
  ·have h2:b=((bs l).size:Int):=by simpa using h2
   rw [bs_size] at h2
   rw [if_neg (by omega)]
   conv=>whnf
   exact ⟨trivial,fin_drop rfl⟩
def dg (u:Nat):List UInt8:=if u=0 then [] else Lib.decDigits u
theorem dg_step {u:Nat} (h:0 < u):dg u=dg (u / 10)++[UInt8.ofNat (48+u % 10)]:=by
 have h0:u≠0:=by omega
 unfold dg
 rw [if_neg h0,Lib.decDigits]
 split
 ·rw [if_pos (by omega),Nat.mod_eq_of_lt (by omega)];rfl
 ·rw [if_neg (by omega)]
theorem sRefPrint {R:HP} (n:Int) (h0:-9223372036854775808≤n) (h1:n≤9223372036854775807):PureR Tryz.prog R 56 [.int .i64 n] (.string (bs (Lib.itoa n))):=by
 have hlen:=Lib.itoa_length_le n h0 h1
 refine fn_of_run0 true Tryz.func56 rfl hmix rfl λw0=>?_
 conv=>whnf
 refine ⟨λc=>?_,λc=>?_⟩
 ·have c:=of_decide_eq_true c
  subst c
  have e:Lib.itoa 0=[48]:=by rw [Lib.itoa,if_neg (by omega)];unfold Lib.decDigits;rfl
  rw [e]
  conv=>whnf
  exact ⟨trivial,fin_drop rfl⟩
 ·have c:=of_decide_eq_false c
  conv=>whnf
  refine ⟨λd=>?_,λd=>?_⟩
  ·have d':=of_decide_eq_true d
   have hU:IntKind.u64.wrap (0 - IntKind.u64.wrap n)=((n.natAbs:Nat):Int):=by
    simp [IntKind.wrap,IntKind.bits,IntKind.signed];omega
   conv=>whnf
   rw [hU]
   refine ⟨trivial,LoopAt.heap (α:=Nat × List UInt8) [0] (λa=>[(3,.v (.int .u64 (a.1:Int))),(4,.v (.string (bs a.2)))]) (λa=>[]) (λa=>dg n.natAbs=dg a.1++a.2∧a.1≤n.natAbs) (λa=>a.1) (n.natAbs,[]) ⟨by simp,Nat.le_refl _⟩ rfl ⟨⟨rfl,rfl⟩,⟨rfl,rfl⟩,trivial⟩ ⟨⟨rfl,rfl⟩,trivial⟩ trivial (λh s=>sub_same s) ?_⟩
   rintro ⟨u,s⟩ ⟨hu,hle⟩
   simp only at hu hle
   have hsl:s.length≤21:=by
    have:(dg n.natAbs).length≤21:=by
     unfold dg
     rw [if_neg (by omega)]
     by_cases c0:n < 0
     ·have e:Lib.itoa n=45::Lib.decDigits n.natAbs:=by unfold Lib.itoa;rw [if_pos c0]
      rw [e,List.length_cons] at hlen;omega
     ·have e:Lib.itoa n=Lib.decDigits n.natAbs:=by unfold Lib.itoa;rw [if_neg c0,show n.toNat=n.natAbs by omega]
      rw [e] at hlen;exact hlen
    rw [hu,List.length_append] at this
    omega
   conv=>whnf
   refine ⟨λv=>?_,λv=>?_⟩
   ·have v:=of_decide_eq_true v
    have hst:=dg_step (u:=u) (by omega)
    have hd:IntKind.u8.wrap (IntKind.u64.wrap (48+(u:Int).tmod 10))=((UInt8.ofNat (48+u % 10)).toNat:Int):=by
     rw [Int.tmod_eq_emod_of_nonneg (by omega),IntWalk.u64_in _ (by omega),IntWalk.u8_in _ (by omega),UInt8.toNat_ofNat']
     omega
    conv=>whnf
    rw [hd]
    refine ⟨⟨trivial,by decide⟩,OpAt.lit [.int .u8 ((UInt8.ofNat (48+u % 10)).toNat:Int)] 1 rfl rfl rfl rfl rfl (by decide) rfl rfl rfl (by simp [Value.cells]) rfl (by decide) λg=>?_⟩
    conv=>whnf
    refine ⟨trivial,OpAt.bytesStr g 1 1 [UInt8.ofNat (48+u % 10)] [] rfl (λh s=>s) rfl rfl rfl rfl rfl ?_⟩
    conv=>whnf
    have hq:(u:Int).tdiv 10=((u / 10:Nat):Int):=by rw [Int.tdiv_eq_ediv_of_nonneg (by omega)];omega
    refine ⟨⟨⟨trivial,by simp only [bs_size,List.length_singleton];omega⟩,by decide,by rw [hq];exact IntWalk.u64_in _ (by omega)⟩,Next.heap (u / 10,UInt8.ofNat (48+u % 10)::s) ⟨by rw [hu,hst];simp,by simp only;omega⟩ (by simp only;omega) ⟨⟨?_,rfl⟩,⟨?_,rfl⟩,trivial⟩ ⟨⟨rfl,rfl⟩,trivial⟩ trivial rfl rfl λh s=>sub_nil s⟩
    ·show some _=some _
     rw [hq]
    ·show some _=some _
     rw [bs_append]
     rfl
   ·have v:=of_decide_eq_false v
    have hu0:u=0:=by omega
    subst hu0
    have hs:Lib.decDigits n.natAbs=s:=by
     have:dg n.natAbs=s:=by rw [hu];rfl
     unfold dg at this
     rwa [if_neg (by omega)] at this
    subst hs
    conv=>whnf
    refine iff_t d ?_
    have e:Lib.itoa n=45::Lib.decDigits n.natAbs:=by unfold Lib.itoa;rw [if_pos d']
    rw [e]
    conv=>whnf
    refine ⟨⟨trivial,?_⟩,fin_drop ?_⟩
    ·show 1+(bs (Lib.decDigits n.natAbs)).size≤9223372036854775807
     rw [bs_size];omega
    ·show Value.string (bs [45]++bs (Lib.decDigits n.natAbs))=_
     rw [bs_append];rfl
  ·have d':=of_decide_eq_false d
   have hU:IntKind.u64.wrap n=((n.natAbs:Nat):Int):=by
    rw [IntWalk.u64_in _ (by omega)];omega
   conv=>whnf
   rw [hU]
   refine ⟨trivial,LoopAt.heap (α:=Nat × List UInt8) [0] (λa=>[(3,.v (.int .u64 (a.1:Int))),(4,.v (.string (bs a.2)))]) (λa=>[]) (λa=>dg n.natAbs=dg a.1++a.2∧a.1≤n.natAbs) (λa=>a.1) (n.natAbs,[]) ⟨by simp,Nat.le_refl _⟩ rfl ⟨⟨rfl,rfl⟩,⟨rfl,rfl⟩,trivial⟩ ⟨⟨rfl,rfl⟩,trivial⟩ trivial (λh s=>sub_same s) ?_⟩
   rintro ⟨u,s⟩ ⟨hu,hle⟩
   simp only at hu hle
   have hsl:s.length≤21:=by
    have:(dg n.natAbs).length≤21:=by
     unfold dg
     rw [if_neg (by omega)]
     by_cases c0:n < 0
     ·have e:Lib.itoa n=45::Lib.decDigits n.natAbs:=by unfold Lib.itoa;rw [if_pos c0]
      rw [e,List.length_cons] at hlen;omega
     ·have e:Lib.itoa n=Lib.decDigits n.natAbs:=by unfold Lib.itoa;rw [if_neg c0,show n.toNat=n.natAbs by omega]
      rw [e] at hlen;exact hlen
    rw [hu,List.length_append] at this
    omega
   conv=>whnf
   refine ⟨λv=>?_,λv=>?_⟩
   ·have v:=of_decide_eq_true v
    have hst:=dg_step (u:=u) (by omega)
    have hd:IntKind.u8.wrap (IntKind.u64.wrap (48+(u:Int).tmod 10))=((UInt8.ofNat (48+u % 10)).toNat:Int):=by
     rw [Int.tmod_eq_emod_of_nonneg (by omega),IntWalk.u64_in _ (by omega),IntWalk.u8_in _ (by omega),UInt8.toNat_ofNat']
     omega
    conv=>whnf
    rw [hd]
    refine ⟨⟨trivial,by decide⟩,OpAt.lit [.int .u8 ((UInt8.ofNat (48+u % 10)).toNat:Int)] 1 rfl rfl rfl rfl rfl (by decide) rfl rfl rfl (by simp [Value.cells]) rfl (by decide) λg=>?_⟩
    conv=>whnf
    refine ⟨trivial,OpAt.bytesStr g 1 1 [UInt8.ofNat (48+u % 10)] [] rfl (λh s=>s) rfl rfl rfl rfl rfl ?_⟩
    conv=>whnf
    have hq:(u:Int).tdiv 10=((u / 10:Nat):Int):=by rw [Int.tdiv_eq_ediv_of_nonneg (by omega)];omega
    refine ⟨⟨⟨trivial,by simp only [bs_size,List.length_singleton];omega⟩,by decide,by rw [hq];exact IntWalk.u64_in _ (by omega)⟩,Next.heap (u / 10,UInt8.ofNat (48+u % 10)::s) ⟨by rw [hu,hst];simp,by simp only;omega⟩ (by simp only;omega) ⟨⟨?_,rfl⟩,⟨?_,rfl⟩,trivial⟩ ⟨⟨rfl,rfl⟩,trivial⟩ trivial rfl rfl λh s=>sub_nil s⟩
    ·show some _=some _
     rw [hq]
    ·show some _=some _
     rw [bs_append]
     rfl
   ·have v:=of_decide_eq_false v
    have hu0:u=0:=by omega
    subst hu0
    have hs:Lib.decDigits n.natAbs=s:=by
     have:dg n.natAbs=s:=by rw [hu];rfl
     unfold dg at this
     rwa [if_neg (by omega)] at this
    subst hs
    conv=>whnf
    refine iff_f d ?_
    have e:Lib.itoa n=Lib.decDigits n.natAbs:=by
     unfold Lib.itoa
     rw [if_neg d',show n.toNat=n.natAbs by omega]
    rw [e]
    conv=>whnf
    exact ⟨trivial,fin_drop rfl⟩
theorem dec_one {u:Nat} (h:u < 10):Lib.decDigits u=[UInt8.ofNat (48+u)]:=by rw [Lib.decDigits,dif_pos h]
theorem dec_more {u:Nat} (h:¬ u < 10):Lib.decDigits u=Lib.decDigits (u / 10)++[UInt8.ofNat (48+u % 10)]:=by rw [Lib.decDigits,dif_neg h]
theorem dig_nat {k:Nat} (h:k < 10):(UInt8.ofNat (48+k)).toNat=48+k:=by rw [UInt8.toNat_ofNat'];omega
theorem dec_facts:∀ u:Nat,(∀ c∈Lib.decDigits u,isD c=true)∧dv 0 (Lib.decDigits u)=u∧Lib.decDigits u≠[]∧((Lib.decDigits u)[0]? = some 48→u=0):=by
 intro u
 induction u using Nat.strongRecOn with
 |_ u ih =>
  by_cases c:u < 10
  ·rw [dec_one c]
   refine ⟨λx hx=>?_,?_,by simp,λh=>?_⟩
   ·simp only [List.mem_singleton] at hx
    subst hx
    rw [isD_iff,dig_nat c]
    omega
   ·show 0 * 10+((UInt8.ofNat (48+u)).toNat - 48)=u
    rw [dig_nat c];omega
   ·simp only [List.getElem?_cons_zero,Option.some.injEq] at h
    have:=dig_nat c
    rw [h] at this
    have e:(48:UInt8).toNat=48:=rfl
    omega
  ·obtain ⟨h1,h2,h3,h4⟩:=ih (u / 10) (by omega)
   rw [dec_more c]
   have hm:u % 10 < 10:=Nat.mod_lt _ (by omega)
   refine ⟨λx hx=>?_,?_,by simp,λh=>?_⟩
   ·rcases List.mem_append.1 hx with hx|hx
    ·exact h1 x hx
    ·simp only [List.mem_singleton] at hx
     subst hx
     rw [isD_iff,dig_nat hm]
     omega
   ·rw [dv_append,h2]
    show u / 10 * 10+((UInt8.ofNat (48+u % 10)).toNat - 48)=u
    rw [dig_nat hm];omega
   ·have hp:0 < (Lib.decDigits (u / 10)).length:=List.length_pos_iff.2 h3
    rw [List.getElem?_append_left hp] at h
    have:=h4 h
    omega
theorem nd_pre:∀ {ds rest:List UInt8},(∀ c∈ds,isD c=true)→(∀ c,rest[0]? = some c→isD c=false)→nd (ds++rest)=ds.length
 |[],[],_,_=>rfl
 |[],c::rest,_,h=>by
  show (if isD c=true then _ else _)=_
  rw [h c rfl]
  rfl
 |c::ds,rest,h,h'=>by
  show (if isD c=true then nd (ds++rest)+1 else 0)=_
  rw [if_pos (h c List.mem_cons_self),nd_pre (λx hx=>h x (List.mem_cons_of_mem _ hx)) h']
  rfl
theorem scan_itoa (n:Int) (h0:-9223372036854775808≤n) (h1:n≤9223372036854775807) (rest:List UInt8) (hr:∀ c,rest[0]? = some c→isD c=false):scan (Lib.itoa n++rest) 0=(n,((Lib.itoa n).length:Int),0):=by
 obtain ⟨f1,f2,f3,f4⟩:=dec_facts n.natAbs
 have hl:=List.length_pos_iff.2 f3
 have hnd:=nd_pre f1 hr
 by_cases c:n < 0
 ·have e:Lib.itoa n=45::Lib.decDigits n.natAbs:=by unfold Lib.itoa;rw [if_pos c]
  have hs:sgn (Lib.itoa n++rest)=1:=by rw [e];rfl
  have hq:(Lib.itoa n++rest).drop 1=Lib.decDigits n.natAbs++rest:=by rw [e];rfl
  have:=scan_of (l:=Lib.itoa n++rest) (n:=0) (Nat.zero_le _) rfl hs hq hnd
  rw [show ((0:Nat):Int)=0 from rfl] at this
  rw [this,if_neg,List.take_left,f2,if_pos (by omega),e]
  ·simp only [if_true,List.length_cons]
   refine Prod.ext (by simp only;omega) (Prod.ext (by simp only;omega) rfl)
  ·rw [List.getElem?_append_left hl]
   rintro (h|⟨h,_⟩)
   ·omega
   ·have:=f4 h;omega
 ·have e:Lib.itoa n=Lib.decDigits n.natAbs:=by
   unfold Lib.itoa
   rw [if_neg c,show n.toNat=n.natAbs by omega]
  have hs:sgn (Lib.itoa n++rest)=0:=by
   rw [e]
   unfold sgn
   rw [if_neg]
   rw [List.head?_eq_getElem?,List.getElem?_append_left hl,List.getElem?_eq_getElem hl,Option.some.injEq]
   intro h
   have h5:=isD_iff.1 (f1 _ (List.getElem_mem hl))
   rw [h] at h5
   have e:(45:UInt8).toNat=45:=rfl
   omega
  have hq:(Lib.itoa n++rest).drop 0=Lib.decDigits n.natAbs++rest:=by rw [e];rfl
  have:=scan_of (l:=Lib.itoa n++rest) (n:=0) (Nat.zero_le _) rfl hs hq hnd
  rw [show ((0:Nat):Int)=0 from rfl] at this
  rw [this,if_neg,List.take_left,f2,if_pos (by omega),e]
  ·refine Prod.ext (by simp;omega) (Prod.ext (by simp) rfl)
  ·rw [List.getElem?_append_left hl]
   rintro (h|⟨h,h2|h2⟩)
   ·omega
   ·have h5:=f4 h
    rw [h5,dec_one (by omega)] at h2
    simp at h2
   ·omega
theorem read_itoa (n:Int) (h0:-9223372036854775808≤n) (h1:n≤9223372036854775807):read (Lib.itoa n)=(n,0):=by
 have:=scan_itoa n h0 h1 [] (by simp)
 rw [List.append_nil] at this
 unfold read
 rw [this]
 simp
theorem dv_pos {a:UInt8} {l:List UInt8} (h:isD a=true) (h0:a≠48):0 < dv 0 (a::l):=by
 have h1:=dv_le l (0 * 10+(a.toNat - 48))
 have h2:=isD_iff.1 h
 have h3:a.toNat≠48:=λe=>h0 (UInt8.toNat_inj.1 (by rw [e];rfl))
 show 0 < dv (0 * 10+(a.toNat - 48)) l
 omega
theorem dec_dv:∀ (n:Nat) (ds:List UInt8),ds.length=n→(∀ c∈ds,isD c=true)→ds≠[]→(ds[0]? = some 48→ds.length=1)→Lib.decDigits (dv 0 ds)=ds:=by
 intro n
 induction n with
 |zero=>intro ds hl hd hne;exact absurd (List.length_eq_zero_iff.1 hl) hne
 |succ n ih =>
  intro ds hl hd hne h48
  obtain ⟨bs1,c,rfl⟩:∃ bs1 c,ds=bs1++[c]:=⟨ds.dropLast,ds.getLast hne,(List.dropLast_concat_getLast hne).symm⟩
  have hc:=isD_iff.1 (hd c (by simp))
  have hcc:UInt8.ofNat (48+(c.toNat - 48))=c:=by
   apply UInt8.toNat_inj.1
   rw [UInt8.toNat_ofNat']
   omega
  rw [dv_append]
  show Lib.decDigits (dv 0 bs1 * 10+(c.toNat - 48))=_
  cases bs1 with
  |nil =>
   show Lib.decDigits (0 * 10+(c.toNat - 48))=[c]
   rw [Nat.zero_mul,Nat.zero_add,dec_one (by omega),hcc]
  |cons a bs1 =>
   have ha:a≠48:=λe=>by
    subst e
    have:=h48 (by simp)
    simp at this
   have hp:=dv_pos (l:=bs1) (hd a (by simp)) ha
   have hi:=ih (a::bs1) (by simpa using hl) (λx hx=>hd x (List.mem_append_left _ hx)) (by simp) (λh=>by simp at h;exact absurd h ha)
   rw [dec_more (by omega)]
   have e1:(dv 0 (a::bs1) * 10+(c.toNat - 48)) / 10=dv 0 (a::bs1):=by omega
   have e2:(dv 0 (a::bs1) * 10+(c.toNat - 48)) % 10=c.toNat - 48:=by omega
   rw [e1,e2,hi,hcc]
theorem itoa_read {l:List UInt8} {n:Int} (h:read l=(n,0)):Lib.itoa n=l:=by
 have hs:=scan_of (l:=l) (r:=l) (q:=l.drop (sgn l)) (n:=0) (Nat.zero_le _) rfl rfl rfl rfl
 rw [show ((0:Nat):Int)=0 from rfl] at hs
 unfold read at h
 have hq:=nd_le (l.drop (sgn l))
 have hsl:=sgn_le l
 have hlen:(l.drop (sgn l)).length=l.length - sgn l:=by simp
 have hall:=nd_all (l.drop (sgn l))
 by_cases c:nd (l.drop (sgn l))=0∨((l.drop (sgn l))[0]? = some 48∧(1 < nd (l.drop (sgn l))∨0 < sgn l))
 ·rw [if_pos c] at hs
  rw [hs] at h
  simp at h
 ·rw [if_neg c] at hs
  split at hs
  ·rename_i hv
   rw [hs] at h
   simp only [ne_eq,not_true_eq_false,if_false] at h
   split at h
   ·simp at h
   ·rename_i hlt
    have ht:(l.drop (sgn l)).take (nd (l.drop (sgn l)))=l.drop (sgn l):=List.take_of_length_le (by omega)
    rw [ht] at hall h
    have hdd:=dec_dv _ (l.drop (sgn l)) rfl hall (λe=>c (.inl (by rw [e];rfl))) (λe=>by
     by_cases c1:1 < nd (l.drop (sgn l))
     ·exact absurd (.inr ⟨e,.inl c1⟩) c
     ·omega)
    have hn:(if sgn l=1 then -(dv 0 (l.drop (sgn l)):Int) else (dv 0 (l.drop (sgn l)):Int))=n:=(Prod.ext_iff.1 h).1
    cases l with
    |nil=>simp [nd] at c
    |cons a l =>
     by_cases ca:a=45
     ·subst ca
      have e1:sgn (45::l)=1:=rfl
      rw [e1] at hn hdd hall c
      simp only [List.drop_succ_cons,List.drop_zero,if_true] at hn hdd hall c
      have hp:0 < dv 0 l:=by
       cases l with
       |nil=>simp [nd] at c
       |cons b l =>
        refine dv_pos (hall b (by simp)) λe=>?_
        subst e
        exact c (.inr ⟨rfl,.inr (by omega)⟩)
      unfold Lib.itoa
      rw [if_pos (by omega),show n.natAbs=dv 0 l by omega,hdd]
     ·have e1:sgn (a::l)=0:=by simp [sgn,ca]
      rw [e1] at hn hdd
      simp only [List.drop_zero,Nat.zero_ne_one,if_false] at hn hdd
      unfold Lib.itoa
      rw [if_neg (by omega),show n.toNat=dv 0 (a::l) by omega,hdd]
  ·rw [hs] at h
   simp at h
theorem read_rng {l:List UInt8}:-9223372036854775808≤(read l).1∧(read l).1≤9223372036854775807:=by
 have hs:=scan_of (l:=l) (r:=l) (q:=l.drop (sgn l)) (n:=0) (Nat.zero_le _) rfl rfl rfl rfl
 rw [show ((0:Nat):Int)=0 from rfl] at hs
 have h1:sgn l≤1:=by unfold sgn;split<;>omega
 unfold read
 rw [hs]
 by_cases c:nd (l.drop (sgn l))=0∨((l.drop (sgn l))[0]? = some 48∧(1 < nd (l.drop (sgn l))∨0 < sgn l))
 ·rw [if_pos c];simp
 ·rw [if_neg c]
  split
  ·rename_i hv
   simp only [ne_eq,not_true_eq_false,if_false]
   split
   ·simp
   ·simp only
    split<;>omega
  ·simp
end Go.Proofs.YtcoefgkjlgngkaaGreatDoor
