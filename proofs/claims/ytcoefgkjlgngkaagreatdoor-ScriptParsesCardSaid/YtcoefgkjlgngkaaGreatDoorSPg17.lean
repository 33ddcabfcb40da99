/-
  Texts of the proofs, one behind the other: ScFa, RuneNo.
-/
import Derived.Test.YtcoefgkjlgngkaaGreatDoorSPg16
import Derived.Test.YtcoefgkjlgngkaaGreatDoorSPg03
import Derived.Test.YtcoefgkjlgngkaaGreatDoorSPg13
import Derived.Laws.Runes
namespace Go.Proofs.YtcoefgkjlgngkaaGreatDoor
open Go.RowKit
open Sy
set_option linter.unusedVariables false
set_option linter.unusedSimpArgs false
set_option maxRecDepth 100000
set_option maxHeartbeats 4000000
def thrownCh:List PanicEntry:=[{ v:=.iface 73 (.agg #[.int .i64 12]),recovered:=false }]
abbrev isThrown (ch:List PanicEntry):Prop:=ch=thrownCh
theorem PanR.untk {P:Program} {R:HP} {f:FuncId} {args:List Value} {l:List HP} {X:List PanicEntry→Prop} {RX:HP} {lb b off n c k:Nat} (h:∀ A,(A=some ⟨b,off+k,none⟩∨k=n)→PanR P R f args (lnT lb A (n - k) (c - k)::l) X RX):PanR P R f args (tkH lb b off n c k::l) X RX:=by
 rintro w ⟨g,g1,h1,h2,d,rfl,⟨A,hA,a⟩,s⟩
 exact h A hA w ⟨_,g1,h1,h2,d,rfl,a,s⟩
theorem PanR.of_sat {P:Program} {R:HP} {f:FuncId} {args:List Value} {pre:List HP} {X:List PanicEntry→Prop} {RX:HP} (h:∀ w,Sat (sepL pre R) w→PanR P R f args pre X RX):PanR P R f args pre X RX:=λw s=>h w s w s
theorem CallAt.panS {G:Gl} {f:FuncId} {args:List Value} {st:St} {K:SV→St→Prop} {X:List PanicEntry→Prop} (hc:∀ R':HP,(∀ w,Sat R' w→Sat (sepL st.h G.R) w)→PanR G.P R' f args [] X R') (hX:∀ ch,X ch→G.X ch) (hRX:∀ w,Sat (sepL st.h G.R) w→Sat G.RX w) (ha:axAt G.AX st):CallAt G f args st K:=by
 refine .px ha λρ w mm=>?_
 obtain ⟨h,h1,h2,_⟩:=mm.hp
 refine Calls.mono (hc (sepL st.h G.R) (λw s=>s) w ⟨h,h1,h2⟩) ?_
 rintro e w' ⟨ch,rfl,k1,k2,k3⟩
 exact ⟨ch,rfl,hX _ k1,hRX _ k2,mm.wd.trans k3⟩
theorem CallAt.panT {G:Gl} {f:FuncId} {args:List Value} {st:St} {K:SV→St→Prop} {pre:List HP} {X:List PanicEntry→Prop} (rest:List HP) (hp:∀ h,sepL st.h G.R h→sepL (pre++rest) G.R h) (hc:∀ R':HP,(∀ w,Sat R' w→Sat (sepL rest G.R) w)→PanR G.P R' f args pre X R') (hX:∀ ch,X ch→G.X ch) (hRX:∀ w,Sat (sepL rest G.R) w→Sat G.RX w) (ha:axAt G.AX st):CallAt G f args st K :=
 CallAt.pan rest hp (RX:=sepL rest G.R) (λR' hR' w s=>(hc R' hR' w s).mono λe w' ⟨ch,h1,h2,h3,h4⟩=>⟨ch,h1,h2,hR' w' h3,h4⟩) hX hRX ha
def BadW (ws:List (List UInt8)) (k:Nat):Prop:=k=ws.length∨∃ z,ws[k]? = some z∧z.length≤1048576∧(read z).2≠0
theorem sWordNo {R:HP} {lb b off n c:Nat} (s:ByteArray):PanR Tryz.prog R 28 [.pointer (some ⟨lb,0,none⟩),.string s] [tkH lb b off n c n] isThrown R:=by
 refine PanR.untk λA hA=>?_
 refine pan_of_run0 _ _ false Tryz.func28 rfl hmix rfl λw0=>?_
 conv=>whnf
 refine ⟨trivial,LoadAt.cell (.bool true) rfl rfl (λw hw=>blk_cell (hw.in_ 0 rfl) rfl) ?_⟩
 conv=>whnf
 refine iff_f rfl ?_
 conv=>whnf
 refine ⟨trivial,LoadAt.cell (.slice A (n - n) (c - n)) rfl rfl (λw hw=>blk_cell (hw.in_ 0 rfl) rfl) ?_⟩
 conv=>whnf
 refine iff_t (decide_eq_true (by omega)) ?_
 conv=>whnf
 exact ⟨trivial,OpAt.panic 73 (.agg #[.int .i64 12]) rfl rfl rfl rfl (λw s=>s.rest) trivial⟩
theorem sNumberNo {R:HP} (hN:∀ w,Sat R w→NumW w) (z:List UInt8) (hl:z.length≤1048576) (h:(read z).2≠0):PanR Tryz.prog R 57 [.string (bs z)] [] isThrown R:=by
 have hr:=λR' (h':∀ w,Sat R' w→Sat R w)=>sRead (R:=R') (λw s=>hN w (h' w s)) z hl
 refine pan_of_run0 _ _ false Tryz.func57 rfl hmix rfl λw0=>?_
 conv=>whnf
 refine ⟨trivial,CallAt.pure (λR' hR'=>hr R' hR') ?_⟩
 conv=>whnf
 refine iff_t (by simpa using h) ?_
 conv=>whnf
 exact ⟨trivial,OpAt.panic 73 (.agg #[.int .i64 12]) rfl rfl rfl rfl (λw s=>s) trivial⟩
theorem sNumbersNo {R:HP} {lb b off n c k ob:Nat} {tb:TypeId} {cs:Array Value} {A:Option Addr} {m ca:Nat} {ws:List (List UInt8)} (hN:∀ w,Sat R w→NumW w) (ps:List (Nat × Int)) (j:Nat) (hj:j < m) (hm:ps.length=m) (hm2:m≤100) (hn:ws.length=n) (hmn:n≤1000000) (hc:n≤c) (ha:WordsAt R b off ws) (hp:Sl R A m 1 (ptrV ob ps))
  (hz:∀ i (h:i < ps.length),i < j→∃ z,ws[k+i]? = some z∧read z=(ps[i].2,0)∧z.length≤1048576) (hbad:BadW ws (k+j)) (hcs:∀ p∈ps,IntAt cs p.1∧I64 p.2) :
  PanR Tryz.prog R 40 [.pointer (some ⟨lb,0,none⟩),.slice A m ca] [tkH lb b off n c k,blkH ob tb cs] isThrown R:=by
 refine PanR.of_sat λwS hS=>?_
 obtain ⟨_,sa⟩:=hp.spot (by omega) (Sat.rest hS)
 refine pan_of_run0 _ _ false Tryz.func40 rfl hmix rfl λw0=>?_
 conv=>whnf
 refine ⟨trivial,LoopAt.heap (α:=Nat) [0,6,7] (λi=>[(8,.v (.int .i64 (i:Int)))]) (λi=>[tkH lb b off n c (k+i),blkH ob tb (putsC cs (ps.take i))]) (λi=>i≤j) (λi=>m - i) 0 (Nat.zero_le _) rfl ⟨⟨rfl,rfl⟩,trivial⟩ ⟨⟨rfl,rfl⟩,⟨rfl,rfl⟩,⟨rfl,rfl⟩,trivial⟩ trivial (λh s=>sub_same s) ?_⟩
 intro i hi
 conv=>whnf
 refine ⟨λh=>?_,λh=>?_⟩
 ·have hi2:i < m:=by simpa using h
  rcases sa with sa|⟨ab,aoff,rfl,sa⟩
  ·omega
  have hil:i < ps.length:=by omega
  have hzi:=hz i hil
  obtain ⟨hk1,hk2⟩:=hcs _ (List.getElem_mem hil)
  have f1:(ptrV ob ps)[i]? = some (.pointer (some ⟨ob,(ps[i]).1,none⟩)):=by simp [hil]
  have f2:putsC cs (ps.take (i+1))=putK' (putsC cs (ps.take i)) ps[i].1 (.int .i64 ps[i].2):=by rw [List.take_succ_eq_append_getElem hil,putsC_snoc]
  obtain ⟨g1,g2⟩:=putsC_int (cs:=cs) (ps:=ps.take i) λp hp'=>⟨(hcs p (List.mem_of_mem_take hp')).1.lt,(hcs p (List.mem_of_mem_take hp')).2⟩
  obtain ⟨v,hv,hv2⟩:=g2 _ hk1
  have hlt:=hk1.lt
  generalize ps[i]=p at *
  obtain ⟨kk,zz⟩:=p
  simp only at hzi hk1 hk2 f1 f2 hv hlt
  generalize putsC cs (ps.take i)=cc at *
  conv=>whnf
  refine ⟨⟨trivial,by omega⟩,LoadAt.cell (.pointer (some ⟨ob,kk,none⟩)) rfl rfl (λw hw=>?_) ?_⟩
  ·simp only [Int.toNat_natCast,Nat.mul_one]
   exact sa w (Sat.rest hw) _ _ f1
  conv=>whnf
  refine ⟨trivial,LoadAt.cell (.int .i64 v) rfl rfl (λw hw=>blk_cell (hw.in_ 1 rfl) hv) ?_⟩
  conv=>whnf
  refine ⟨trivial,CallAt.pure (λR' hR'=>sPrint (λw s=>hN w (Sat.rest (hR' w s))) v hv2.1 hv2.2) ?_⟩
  conv=>whnf
  by_cases hij:i < j
  ·obtain ⟨z,hz1,hz2,hz3⟩:=hzi hij
   refine ⟨trivial,CallAt.fn (pre:=[tkH lb b off n c (k+i)]) _ (λh s=>s) (λR' hR'=>sWordT (bs (Lib.itoa v)) hz1 hn hmn hc (ha.mono λw s=>Sat.rest (hR' w s))) ?_⟩
   rintro r hs ⟨rfl,rfl⟩
   conv=>whnf
   refine ⟨trivial,CallAt.pure (λR' hR'=>sNumberR (λw s=>hN w (Sat.rest (hR' w s))) z hz3 zz hz2) ?_⟩
   conv=>whnf
   refine ⟨trivial,OpAt.store (A':=blkH ob tb (putK' cc kk (.int .i64 zz))) ob kk (.int .i64 zz) _ rfl (λh s=>sepL_pull 1 s) rfl rfl rfl rfl rfl (by simp [Value.cells,Value.oneCell']) (λh r=>blk_put (show kk+1≤_ by omega) r) ?_⟩
   conv=>whnf
   refine ⟨(by (repeat' apply And.intro)<;>first|exact True.intro|(unfold rng;omega)|omega),Next.heap (i+1) (by omega) (by omega) ⟨⟨rfl,rfl⟩,trivial⟩ ⟨⟨rfl,rfl⟩,⟨rfl,rfl⟩,⟨rfl,rfl⟩,trivial⟩ trivial rfl rfl λh s=>sub_same ?_⟩
   rw [f2]
   exact sepL_pull 1 s
  ·have hij:i=j:=by omega
   subst hij
   rcases hbad with hb|⟨z,hz1,hz3,hz2⟩
   ·have hkn:k+i=n:=by omega
    rw [hkn]
    exact ⟨trivial,CallAt.panT (pre:=[tkH lb b off n c n]) _ (λh s=>s) (λR' hR'=>sWordNo (bs (Lib.itoa v))) (λch h=>h) (λw s=>s.rest) trivial⟩
   ·refine ⟨trivial,CallAt.fn (pre:=[tkH lb b off n c (k+i)]) _ (λh s=>s) (λR' hR'=>sWordT (bs (Lib.itoa v)) hz1 hn hmn hc (ha.mono λw s=>Sat.rest (hR' w s))) ?_⟩
    rintro r hs ⟨rfl,rfl⟩
    conv=>whnf
    exact ⟨trivial,CallAt.panS (λR' hR'=>sNumberNo (λw s=>hN w (Sat.rest (hR' w s))) z hz3 hz2) (λch h=>h) (λw s=>s.rest) trivial⟩
 ·have hi3:i=m:=by simp at h;omega
  omega
structure NumsNo (ws:List (List UInt8)) (k:Nat) (zs:List Int) (j:Nat):Prop where
 lt:j < zs.length
 ok:∀ i (h:i < zs.length),i < j→∃ z,ws[k+i]? = some z∧read z=(zs[i],0)∧z.length≤1048576
 bad:BadW ws (k+j)
theorem NumsNo.ps {ws:List (List UInt8)} {k j:Nat} {zs:List Int} (h:NumsNo ws k zs j) {ps:List (Nat × Int)} (e:ps.map (·.2)=zs):∀ i (h:i < ps.length),i < j→∃ z,ws[k+i]? = some z∧read z=(ps[i].2,0)∧z.length≤1048576:=by
 subst e
 intro i hi hj
 obtain ⟨z,h1,h2,h3⟩:=h.ok i (by simpa using hi) hj
 exact ⟨z,h1,by simpa using h2,h3⟩
theorem sCellNo {R:HP} {lb b off n c k ob:Nat} {tb:TypeId} {cs:Array Value} {ws:List (List UInt8)} (hN:∀ w,Sat R w→NumW w) (j:Nat) (x y:Int) {q:Nat} (hn:ws.length=n) (hmn:n≤1000000) (hc:n≤c) (ha:WordsAt R b off ws) (hz:NumsNo ws k [x,y] q) (bx:I64 x) (by':I64 y) (h0:IntAt cs j) (h1:IntAt cs (j+1)) :
  PanR Tryz.prog R 41 [.pointer (some ⟨lb,0,none⟩),.pointer (some ⟨ob,j,none⟩)] [tkH lb b off n c k,blkH ob tb cs] isThrown R:=by
 refine pan_of_run0 _ _ false Tryz.func41 rfl hmix rfl λw0=>?_
 conv=>whnf
 refine ⟨trivial,RegAt.groups [([.T 0,.T 1,.T 2,.T 3,.T 4,.T 5,.T 6,.H 7],8),([.H 8],9)] hmix (by kernel_rfl) ?_⟩
 conv=>whnf
 refine ⟨trivial,OpAt.lit (ptrV ob [(j,x),(j+1,y)]) 1 rfl rfl rfl rfl rfl (by decide) rfl rfl rfl (by simp [Value.cells]) rfl (by decide) λg=>?_⟩
 conv=>whnf
 refine ⟨trivial,⟨⟨rfl,rfl⟩,λh s=>sub_tail s⟩,?_⟩
 conv=>whnf
 refine ⟨trivial,CallAt.panT (pre:=[tkH lb b off n c k,blkH ob tb cs]) _ (λh s=>sepL_perm (List.Perm.trans (List.Perm.swap _ _ _) ((List.Perm.swap _ _ _).cons _)) s) (λR' hR'=>sNumbersNo (λw s=>hN w (Sat.rest (hR' w s))) [(j,x),(j+1,y)] q hz.lt rfl (by decide) hn hmn hc (ha.mono λw s=>Sat.rest (hR' w s)) (Sl.row λw s=>(hR' w s).in_ 0 rfl) (hz.ps rfl) hz.bad (λp hp=>?_)) (λch h=>h) (λw s=>s.rest) trivial⟩
 simp only [List.mem_cons,List.not_mem_nil,or_false] at hp
 rcases hp with rfl|rfl
 ·exact ⟨h0,bx⟩
 ·exact ⟨h1,by'⟩
theorem sRectNo {R:HP} {lb b off n c k ob:Nat} {tb:TypeId} {cs:Array Value} {ws:List (List UInt8)} (hN:∀ w,Sat R w→NumW w) (j:Nat) (x y z u:Int) {q:Nat} (hn:ws.length=n) (hmn:n≤1000000) (hc:n≤c) (ha:WordsAt R b off ws) (hz:NumsNo ws k [x,y,z,u] q) (bx:I64 x) (by':I64 y) (bz:I64 z) (bu:I64 u) (h0:IntAt cs j) (h1:IntAt cs (j+1)) (h2:IntAt cs (j+2)) (h3:IntAt cs (j+3)) :
  PanR Tryz.prog R 42 [.pointer (some ⟨lb,0,none⟩),.pointer (some ⟨ob,j,none⟩)] [tkH lb b off n c k,blkH ob tb cs] isThrown R:=by
 refine pan_of_run0 _ _ false Tryz.func42 rfl hmix rfl λw0=>?_
 conv=>whnf
 refine ⟨trivial,RegAt.groups [([.T 0,.T 1,.T 2,.T 3,.T 4,.T 5,.T 6,.T 7,.T 8,.T 9,.T 10,.T 11,.T 12,.H 13],14),([.H 14],15)] hmix (by kernel_rfl) ?_⟩
 conv=>whnf
 refine ⟨trivial,OpAt.lit (ptrV ob [(j,x),(j+1,y),(j+2,z),(j+3,u)]) 1 rfl rfl rfl rfl rfl (by decide) rfl rfl rfl (by simp [Value.cells]) rfl (by decide) λg=>?_⟩
 conv=>whnf
 refine ⟨trivial,⟨⟨rfl,rfl⟩,λh s=>sub_tail s⟩,?_⟩
 conv=>whnf
 refine ⟨trivial,CallAt.panT (pre:=[tkH lb b off n c k,blkH ob tb cs]) _ (λh s=>sepL_perm (List.Perm.trans (List.Perm.swap _ _ _) ((List.Perm.swap _ _ _).cons _)) s) (λR' hR'=>sNumbersNo (λw s=>hN w (Sat.rest (hR' w s))) [(j,x),(j+1,y),(j+2,z),(j+3,u)] q hz.lt rfl (by decide) hn hmn hc (ha.mono λw s=>Sat.rest (hR' w s)) (Sl.row λw s=>(hR' w s).in_ 0 rfl) (hz.ps rfl) hz.bad (λp hp=>?_)) (λch h=>h) (λw s=>s.rest) trivial⟩
 simp only [List.mem_cons,List.not_mem_nil,or_false] at hp
 rcases hp with rfl|rfl|rfl|rfl
 ·exact ⟨h0,bx⟩
 ·exact ⟨h1,by'⟩
 ·exact ⟨h2,bz⟩
 ·exact ⟨h3,bu⟩
theorem hxs_size:HXs.size=16:=rfl
abbrev hxl:List UInt8:=[48,49,50,51,52,53,54,55,56,57,97,98,99,100,101,102]
theorem hxs_bs:HXs=bs hxl:=rfl
theorem hxs_low:∀ p:Fin 16,(hxl[p.val]).toNat < 128:=by decide
theorem hxs_byte:∀ p:Fin 16,byteAt HXs p.val < 128:=by decide
theorem indexByte_none {c:UInt8}:∀ {l:List UInt8},c ∉ l→Lib.indexByte l c=-1
 |[],_=>rfl
 |b::l,h=>by
  have h1:(b == c)=false:=by
   simp only [beq_eq_false_iff_ne,ne_eq]
   intro e
   exact h (by simp [e])
  have h2:=indexByte_none (c:=c) (l:=l) λhc=>h (List.mem_cons_of_mem _ hc)
  unfold Lib.indexByte
  rw [h1,h2]
  rfl
theorem enc_last {r:Int} (h:128≤r) (hv:Lib.validRune r=true):∃ m,(Utf8.encode r).size=m+1∧1≤m∧m≤3∧128≤byteAt (Utf8.encode r) m∧byteAt (Utf8.encode r) m < 256:=by
 have hval:Utf8.valid r=true:=by
  unfold Lib.validRune at hv
  have hv:=of_decide_eq_true hv
  unfold Utf8.valid
  simp only [Bool.or_eq_true,Bool.and_eq_true,decide_eq_true_eq]
  omega
 unfold Utf8.encode
 simp only [hval,if_true]
 generalize hc:r.toNat=c
 have hc1:128≤c:=by omega
 have key:∀ n,n < 64→((UInt8.ofNat (128+n)).toNat:Int)=128+n:=λn hn=>by
  rw [UInt8.toNat_ofNat']
  omega
 have hm:c % 64 < 64:=by omega
 rw [if_neg (by omega)]
 by_cases h2:c < 2048
 ·rw [if_pos h2]
  refine ⟨1,rfl,by omega,by omega,?_,?_⟩
  ·show 128≤((UInt8.ofNat (128+c % 64)).toNat:Int)
   rw [key _ hm];omega
  ·show ((UInt8.ofNat (128+c % 64)).toNat:Int) < 256
   rw [key _ hm];omega
 ·rw [if_neg h2]
  by_cases h3:c < 65536
  ·rw [if_pos h3]
   refine ⟨2,rfl,by omega,by omega,?_,?_⟩
   ·show 128≤((UInt8.ofNat (128+c % 64)).toNat:Int)
    rw [key _ hm];omega
   ·show ((UInt8.ofNat (128+c % 64)).toNat:Int) < 256
    rw [key _ hm];omega
  ·rw [if_neg h3]
   refine ⟨3,rfl,by omega,by omega,?_,?_⟩
   ·show 128≤((UInt8.ofNat (128+c % 64)).toNat:Int)
    rw [key _ hm];omega
   ·show ((UInt8.ofNat (128+c % 64)).toNat:Int) < 256
    rw [key _ hm];omega
theorem hxl_low:∀ x∈hxl,x.toNat < 128:=by decide
theorem hi_notin {b:Int} (h1:128≤b) (h2:b < 256) (i j:Nat):b.toNat.toUInt8 ∉ (HXs.extract i j).data.toList:=by
 intro hm
 rw [hxs_bs,bs_extract,bs_toList] at hm
 have h3:=hxl_low _ (List.mem_of_mem_take (List.mem_of_mem_drop hm))
 have h4:b.toNat.toUInt8.toNat=b.toNat:=by
  show (UInt8.ofNat b.toNat).toNat=b.toNat
  rw [UInt8.toNat_ofNat']
  omega
 omega
theorem sValidRune {R:HP} (r:Int):PureR Tryz.prog R 75 [.int .i32 r] (.bool (Lib.validRune r)):=PureR.of_below λw _=>(Any.utf8_ValidRune { lays152 with } r w).mono λe w' ⟨he,hw⟩=>⟨he,hw ▸ Below.refl _ _⟩
theorem sIndexByteNo {R:HP} (s:ByteArray) (c:Int) (h:c.toNat.toUInt8 ∉ s.data.toList):PureR Tryz.prog R 74 [.string s,.int .u8 c] (.int .i64 (-1)):=PureR.of_below λw _=>(Any.strings_IndexByte { lays152 with } s c w).mono λe w' ⟨he,hw⟩=>⟨by rw [he,indexByte_none h],hw ▸ Below.refl _ _⟩
theorem sIndexRuneHi {R:HP} {r:Int} (h:128≤r):PureR Tryz.prog R 61 [.string HXs,.int .i32 r] (.int .i64 (-1)):=by
 by_cases c2:r=65533
 ·subst c2
  refine fn_of_run0 false Tryz.func61 rfl hmix rfl λw0=>?_
  conv=>whnf
  repeat (first|(refine ⟨λ_=>?_,λh=>absurd h (by decide)⟩;conv=>whnf)|(refine ⟨λh=>absurd h (by decide),λ_=>?_⟩;conv=>whnf))
  refine ⟨trivial,OpAt.range HXs rfl rfl rfl rfl λit=>?_⟩
  conv=>whnf
  refine ⟨trivial,LoopAt.heap (α:=Nat) [175] (λ_=>[]) (λp=>[itH it HXs p]) (λp=>p≤16) (λp=>16 - p) 0 (Nat.zero_le _) rfl trivial ⟨⟨rfl,rfl⟩,trivial⟩ trivial (λh s=>sub_same s) ?_⟩
  intro p hp
  conv=>whnf
  by_cases hlt:p < 16
  ·have hlow:=hxs_low ⟨p,hlt⟩
   have hlt2:p < (bs hxl).size:=hlt
   have hdec:Utf8.decode HXs p=((hxl[p]).toNat,1):=by rw [hxs_bs,decode_ascii (bs hxl) p hlt2 (by rw [bs_get];exact hlow),bs_get];rfl
   refine ⟨trivial,OpAt.next it HXs p [] rfl (λh s=>s) rfl rfl hlt ?_⟩
   rw [hdec]
   generalize (hxl[p]).toNat=c at *
   conv=>whnf
   refine iff_t rfl ?_
   conv=>whnf
   refine ⟨λg=>absurd (of_decide_eq_true g) (by omega),λg=>?_⟩
   conv=>whnf
   exact ⟨trivial,Next.heap (p+1) (by omega) (by omega) trivial ⟨⟨rfl,rfl⟩,trivial⟩ trivial rfl rfl λh s=>sub_same s⟩
  ·refine ⟨trivial,OpAt.nextEnd it HXs p [] rfl (λh s=>s) rfl rfl hlt ?_⟩
   conv=>whnf
   refine iff_f rfl ?_
   conv=>whnf
   exact ⟨trivial,fin_drop rfl⟩
 ·refine fn_of_run0 false Tryz.func61 rfl hmix rfl λw0=>?_
  conv=>whnf
  refine ⟨λ_=>?_,λg=>absurd g (by rw [decide_eq_true (by omega)];decide)⟩
  conv=>whnf
  refine ⟨λg=>absurd (of_decide_eq_true g) (by omega),λ_=>?_⟩
  conv=>whnf
  refine ⟨λg=>absurd (of_decide_eq_true g) c2,λ_=>?_⟩
  conv=>whnf
  refine ⟨trivial,CallAt.pure (λR' hR'=>sValidRune r) ?_⟩
  cases hv:Lib.validRune r with
  |false =>
   conv=>whnf
   repeat (first|(refine ⟨λ_=>?_,λh=>absurd h (by decide)⟩;conv=>whnf)|(refine ⟨λh=>absurd h (by decide),λ_=>?_⟩;conv=>whnf))
   exact ⟨trivial,fin_drop rfl⟩
  |true =>
   obtain ⟨m,hs,h1,h3,hb,hb2⟩:=enc_last h hv
   conv=>whnf
   repeat (first|(refine ⟨λ_=>?_,λh=>absurd h (by decide)⟩;conv=>whnf)|(refine ⟨λh=>absurd h (by decide),λ_=>?_⟩;conv=>whnf))
   have henc:∀ R':HP,True:=λ_=>trivial
   refine ⟨trivial,OpAt.conv rfl rfl rfl (λw _=>run_convert_int_string w _ _ _ _ rfl Tryz.underlying9) ?_⟩
   generalize Utf8.encode r=rs at *
   conv=>whnf
   rw [show ((rs.size:Int) - 1)=(m:Int) by omega]
   have hbm:=hxs_byte ⟨m,by omega⟩
   simp only at hbm
   refine ⟨⟨trivial,by unfold rng;omega⟩,LoopAt.keep (α:=Unit) [0,1,7,8,9,10] (λ_=>[]) (λ_=>True) (λ_=>0) () trivial rfl trivial ⟨⟨rfl,rfl⟩,⟨rfl,rfl⟩,⟨rfl,rfl⟩,⟨rfl,rfl⟩,⟨rfl,rfl⟩,⟨rfl,rfl⟩,trivial⟩ trivial ?_⟩
   rintro _ -
   conv=>whnf
   refine ⟨λ_=>?_,λg=>absurd (of_decide_eq_false g) (by rw [hxs_size];omega)⟩
   conv=>whnf
   refine ⟨trivial,RegAt.quiet hmix (by kernel_rfl) ?_⟩
   conv=>whnf
   have hmz:(m:Int).toNat=m:=Int.toNat_natCast m
   refine ⟨⟨⟨trivial,by rw [hxs_size];omega⟩,by omega⟩,?_⟩
   conv=>whnf
   refine ⟨λ_=>?_,λg=>?_⟩
   rotate_left
   ·exfalso
    simp only [Int.toNat_natCast] at g
    simp at g
    omega
   conv=>whnf
   refine ⟨trivial,RegAt.quiet hmix (by kernel_rfl) ?_⟩
   conv=>whnf
   refine ⟨⟨⟨⟨trivial,by unfold rng;omega⟩,by rw [hxs_size];refine ⟨?_,?_,?_⟩<;>omega⟩,by omega⟩,CallQ.pure (λR' hR'=>sIndexByteNo _ _ (hi_notin (by rw [hmz];exact hb) (by rw [hmz];exact hb2) _ _)) ?_⟩
   conv=>whnf
   refine ⟨trivial,?_⟩
   conv=>whnf
   repeat (first|(refine ⟨λ_=>?_,λh=>absurd h (by decide)⟩;conv=>whnf)|(refine ⟨λh=>absurd h (by decide),λ_=>?_⟩;conv=>whnf))
   exact ⟨trivial,fin_drop rfl⟩
end Go.Proofs.YtcoefgkjlgngkaaGreatDoor
