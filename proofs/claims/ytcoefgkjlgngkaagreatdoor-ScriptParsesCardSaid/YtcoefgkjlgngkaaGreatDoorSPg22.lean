/-
  Texts of the proofs, one behind the other: ScDoor, ScOp, ScKh, SyDefer2, ScKi, ScKj.
-/
import Derived.Test.YtcoefgkjlgngkaaGreatDoorSPg21
import Derived.ProofKit
import Derived.OpenShut
import Derived.Lib.SmallJoins
import Derived.LaidMore
import Derived.Stop.Joined
import Derived.Stop.LaidErr
import Derived.Lib.LaidTab
import Derived.SevenTiedAt
import Derived.Shelf.Vars
import Derived.Lay
import Derived.Test.YtcoefgkjlgngkaaGreatDoorCards
import Derived.Test.YtcoefgkjlgngkaaGreatDoorSPg20
import Derived.Test.YtcoefgkjlgngkaaGreatDoorSPg16
import Derived.Test.YtcoefgkjlgngkaaGreatDoorSPg03
import Derived.Deep.MidRow
namespace Go.Proofs.YtcoefgkjlgngkaaGreatDoor
open Go.ChangeShapes Go.WideShapes Go.ChangeAt Go.RowKit Go.Joins Sy
set_option linter.unusedVariables false
set_option linter.unusedSimpArgs false
set_option maxRecDepth 100000
set_option maxHeartbeats 4000000
abbrev L9 : List (String × DataW Unit) := [("math/bits.deBruijn32tab", Rows.laid_math_bits_deBruijn32tab), ("math/bits.deBruijn64tab", Rows.laid_math_bits_deBruijn64tab), ("internal/strconv.uint64pow10", Rows.laid_internal_strconv_uint64pow10), ("unicode/utf8.acceptRanges", Rows.laid_unicode_utf8_acceptRanges), ("strconv.ErrRange", Rows.laid_strconv_ErrRange), ("strconv.ErrSyntax", Rows.laid_strconv_ErrSyntax), ("hachure/crc.halves", Rows.laid_hachure_crc_halves), ("hachure/script.verbs", Rows.laid_hachure_script_verbs), ("unicode/utf8.first", Rows.laid_unicode_utf8_first)]
theorem starE : "*" ++ "errors.errorString" = "*errors.errorString" := by decide
theorem rowE (u : TypeId) (h : Tryz.prog.typeName? 3 u = some "*errors.errorString") : u = 493 :=
 typeName_ptr_named (nm := "errors.errorString") (by rw [starE]; kernel_rfl) (by kernel_rfl) (by decide) u (by rw [starE]; exact h)
theorem numW_of9 {W:World} (h:laidMet Tryz.prog L9 W):NumW W:=by
 have h3:=h.tail.tail
 have h4:=h3.tail.tail
 have h5:=h4.tail
 refine ⟨?_,?_,?_⟩
 ·exact Lib.tabIs_of_head (n:=20) (e:=127) (t:=344) (g:=4) (by kernel_rfl) (by kernel_rfl) Tryz.underlying344 Tryz.underlying127 (by kernel_rfl) (by kernel_rfl) h3
 ·obtain ⟨a0,s0,hv0,-,-,-⟩:=laid_sentinel (g:=6) (ti:=109) h4 (by kernel_rfl) (by kernel_rfl) Tryz.underlying109 rowE Tryz.underlying493 Tryz.underlying495 rfl rfl Tryz.underlying9 (by kernel_rfl) (by kernel_rfl)
  exact ⟨_,_,hv0⟩
 ·obtain ⟨a0,s0,hv0,-,-,-⟩:=laid_sentinel (g:=5) (ti:=109) h5 (by kernel_rfl) (by kernel_rfl) Tryz.underlying109 rowE Tryz.underlying493 Tryz.underlying495 rfl rfl Tryz.underlying9 (by kernel_rfl) (by kernel_rfl)
  exact ⟨_,_,hv0⟩
theorem maxW_of {W:World} (h:W.ShapedOpen Tryz.prog):∃ m,W.cell? ⟨1,0,none⟩=some (.int .i64 m) :=
 cell_of_shapedOpen_int (t:=3) (zero:=#[.int .i64 0]) h (of_decide_eq_true (by kernel_rfl)) (by kernel_rfl) rfl (by kernel_rfl) (by kernel_rfl) Tryz.underlying3
theorem cells_of_strs {H:Type} {enc:TypeId × Value→H} {P:Program} {w:World} {base:Nat} {sp:Nat→Bool} {held:Bool} {fuel:Nat} {t e:TypeId} {n:Nat} {cs:List Value} {zs:List (List UInt8)} {p:List MemPlace}
  (ht:P.underlying t=some (.array n e)) (he:P.underlying e=some .string) (hce:P.cellsOf e=1) (hct:P.cellsOf t=n)
  (h:DataW.trod enc P w base sp held fuel t cs=some (.agg (zs.map λz=>.lit (.string z)),p)):cs=zs.map λz=>Value.string (bs z):=by
 cases fuel with
 |zero=>simp [DataW.trod] at h
 |succ fuel =>
  simp only [DataW.trod,ht,hce,hct,Nat.mul_one] at h
  split at h
  ·rename_i hl
   obtain ⟨xs,hm,hx⟩:=Option.map_eq_some_iff.1 h
   have hxs:xs.map (·.1)=zs.map λz=>(DataW.lit (.string z):DataW H):=by
    have:=congrArg Prod.fst hx
    simpa using this
   have hxl:xs.length=n:=by simpa using Lib.mapM_length hm
   have hzl:zs.length=n:=by
    have:=congrArg List.length hxs
    simp at this
    omega
   apply List.ext_getElem?
   intro i
   by_cases hi:i < n
   ·obtain ⟨b,hb,hf⟩:=Lib.mapM_at hm i i (by simp [hi])
    obtain ⟨z,hc,rfl,_⟩:=DataW.trod_string he hf
    have h1:cs[i]? = some (.string z):=by
     have:=congrArg (·[0]?) hc
     simpa [List.getElem?_take,List.getElem?_drop] using this
    have h2:(xs.map (·.1))[i]? = some (DataW.lit (.string z.data.toList):DataW H):=by simp [hb]
    rw [hxs] at h2
    simp only [List.getElem?_map,Option.map_eq_some_iff,DataW.lit.injEq,Lit.string.injEq] at h2
    obtain ⟨z',hz',e⟩:=h2
    simp [h1,hz',e,bs_data]
   ·rw [List.getElem?_eq_none (by omega),List.getElem?_eq_none (by simp;omega)]
  ·cases h
def verbsL:List (List UInt8):=[[],[99,114,101,97,116,101],[115,101,116],[102,105,108,108],[112,97,115,116,101],[97,100,100],[103,101,116],[115,117,109],[109,105,110],[109,97,120],[111,118,101,114],[114,97,110,107],[115,105,103,104,116],[118,105,101,119],[114,101,103,105,111,110,115],[115,105,110,107],[114,111,117,116,101],[108,101,118,101,108],[102,114,101,101,122,101],[116,104,97,119],[111,108,100,115,117,109],[111,108,100,109,105,110],[111,108,100,109,97,120],[115,97,118,101],[108,111,97,100],[117,110,100,111],[114,101,100,111],[100,114,97,119]]
theorem verbs_is:Rows.laid_hachure_script_verbs (H:=Unit)=.agg (verbsL.map λz=>.lit (.string z)):=rfl
def VerbsW (w:World):Prop:=w.heap[0]? = some (.cells (verbsL.map λz=>Value.string (bs z)).toArray 61 (0,0))
def MaxB (w:World) (m:Int):Prop:=w.heap[1]? = some (.cells #[.int .i64 m] 3 (0,0))
theorem verbsW_of {W:World} (h:laidMet Tryz.prog L9 W) (hs:W.ShapedOpen Tryz.prog):VerbsW W:=by
 have h8:=h.tail.tail.tail.tail.tail.tail.tail
 obtain ⟨ps,⟨g',t',cs,fuel,p,q,hg',ht',hvar,hd,_,_⟩,_⟩:=h8
 obtain rfl := Option.some.inj ((show Tryz.prog.globalNamed "hachure/script.verbs" = some 0 by kernel_rfl).symm.trans hg')
 obtain rfl:=Option.some.inj ((show (Tryz.prog.globals[0]?).map (·.type)=some 61 by kernel_rfl).symm.trans ht')
 rw [verbs_is] at hd
 have hcs:=cells_of_strs (n:=28) (e:=9) Tryz.underlying61 Tryz.underlying9 (by kernel_rfl) (by kernel_rfl) hd
 obtain ⟨cs',hh,_,_⟩:=hs.1 0 (verbsL.map λ_=>Value.string .empty).toArray 61 (of_decide_eq_true (by kernel_rfl)) (by kernel_rfl)
 unfold World.var? at hvar
 rw [show Tryz.prog.globalNamed "hachure/script.verbs" = some 0 by kernel_rfl] at hvar
 simp only [Option.bind_some,hh,Option.some.injEq] at hvar
 unfold VerbsW
 rw [hh,hvar,← hcs]
theorem maxB_of {W:World} (hs:W.ShapedOpen Tryz.prog):∃ m,MaxB W m:=by
 obtain ⟨cs,hh,hsz,_⟩:=hs.1 1 #[.int .i64 0] 3 (of_decide_eq_true (by kernel_rfl)) (by kernel_rfl)
 obtain ⟨m,hm⟩:=maxW_of hs
 refine ⟨m,?_⟩
 unfold MaxB
 rw [hh]
 have h1:cs.size=1:=hsz
 have h2:cs[0]? = some (.int .i64 m):=by simpa [World.cell?,hh] using hm
 have:cs=#[.int .i64 m]:=by
  apply Array.ext
  ·simp [h1]
  ·intro i hi _
   have:i=0:=by omega
   subst this
   simpa [hi] using h2
 rw [this]
structure ScrW (w:World):Prop where
 num:NumW w
 max:∃ m,MaxB w m
 verbs:VerbsW w
theorem scrW_of {W:World} (h:laidMetH Tryz.prog L9 W) (hs:W.ShapedOpen Tryz.prog):ScrW W:=by
 rw [MakeChecks.laidMetH_plain _ _ _ (by kernel_rfl)] at h
 exact ⟨numW_of9 h,maxB_of hs,verbsW_of h hs⟩
theorem scr_door (os:Os) (args:Array Value):laidMetH Tryz.prog L9 ((World.laidAll Tryz.prog os L9).forCall (λ_ _=>0) ⟨#[],args,[]⟩).memory:=by
 rw [MakeChecks.laidMetH_plain _ _ _ (by kernel_rfl)]
 exact laidMet_laidAll _ (by kernel_rfl) (by kernel_rfl)
theorem verbsV_is:Cx.verbsV=verbsL.map λz=>Value.string (bs z):=rfl
theorem laid_scr {w:World} {m:Int} (h:VerbsW w) (hm:MaxB w m):Cx.LaidT (Cx.maxS m::Cx.tabS) w:=by
 intro g o hg
 unfold Cx.lkT at hg
 split at hg
 ·rename_i hx
  have hg:=Option.some.inj hg
  rw [← hg,hx]
  exact hm
 ·unfold Cx.tabS Cx.lkT at hg
  split at hg
  ·rename_i hx
   have hg:=Option.some.inj hg
   rw [← hg,hx]
   show w.heap[0]? = some (.cells Cx.verbsV.toArray 61 (0,0))
   rw [verbsV_is]
   exact h
  ·cases hg
theorem sAwake37 {R:HP} (hW:∀ w,Sat R w→ScrW w):PureR Tryz.prog R 4 [] (.bool true):=PureR.of_below λw hw=>by
 obtain ⟨_,⟨m,hm⟩,hv⟩:=hW w hw
 exact Cx.closed_saysM hmix Cx.orcS_ok (Cx.tabS_small m) rfl rfl (Cx.awake_runs m) (laid_scr hv hm)
theorem scrW_was {W w:World} (h:ScrW W) (s:Sat (was W) w):ScrW w:=by
 have key:∀ n cs,W.var? Tryz.prog n=some cs→w.var? Tryz.prog n=some cs:=λn cs e=>by
  unfold World.var? at e ⊢
  obtain ⟨g,hg,e⟩:=Option.bind_eq_some_iff.1 e
  rw [hg]
  simp only [Option.bind_some]
  split at e
  ·rename_i cs' _ _ hh
   rw [was_ext s hh]
   exact e
  ·cases e
 obtain ⟨h1,⟨m,h2⟩,h3⟩:=h
 exact ⟨⟨key _ _ h1.1,h1.2.1.imp λ_=>Exists.imp λ_=>key _ _,h1.2.2.imp λ_=>Exists.imp λ_=>key _ _⟩,⟨m,was_ext s h2⟩,was_ext s h3⟩
theorem handed_shaped {H:Type} {enc:TypeId × Value→H} {a:Assume} {C:Checked} {os:Os} {f:FuncId} {fn:Func} {s:ChangeSpec} {conds:List PathCond} {apart fresh handsOn again:Bool} {X:World→Array Value→Prop}
  (hX:∀ (w w':World) (args:Array Value),w.heap=w'.heap→X w args→X w' args)
  (own:ownKnob C.prog.godebug=none) (started:os.Started) (noInit:C.prog.inits.idxOf? f=none) (hfn:C.prog.funcs[f]? = some fn)
  (witness:∃ (w:World) (tape:Tape) (i:Input),w.os=os∧(w.forCall tape i).Shaped C.prog∧i.vars=[]∧Input.okWide C.prog (w.forCall tape i) .any w.heap.size f i ∧
   ((s.pre enc C.prog fn conds apart (w.forCall tape i).memory i.args∧X (w.forCall tape i).memory i.args)∧sizedMet enc C.prog fn (OpenSpec.ofChange s) apart (w.forCall tape i).memory i.args)∧a.holds C.prog (lone (Frame.enter C.prog f i.args .normal) [] (w.forCall tape i)))
  (contract:∀ (W:World) (base:Nat) (args:Array Value) (ds gs:List (DataW H)) (before:List MemPlace),
   (∀ (j:Nat) t v,fn.params[j]? = some t→args[j]? = some v→Value.okWide C.prog W .any base t v) →
   DataW.Whole enc C.prog fn.params.toList s.vars apart W args.toList ds gs before→X W args→W.ShapedOpen C.prog →
   Calls C.prog f args W λe W'=>∃ v,e=.returned v∧s.post enc C.prog fn apart fresh handsOn again W args v W') :
  ReturnsInHanded a C os f .any (λw args=>(s.pre enc C.prog fn conds apart w args∧X w args)∧sizedMet enc C.prog fn (OpenSpec.ofChange s) apart w args) (s.post enc C.prog fn apart fresh handsOn again):=by
 refine returnsInHanded_of_calls own started noInit witness ?_
 intro w tape i _ hsh _ hok hpre _
 obtain ⟨_,_,_,fn',hfn',_,_,_,_,hval⟩:=hok
 obtain rfl:fn'=fn:=Option.some.inj (hfn'.symm.trans hfn)
 obtain ⟨⟨⟨ds,gs,before,hw,_⟩,hx⟩,_⟩:=hpre
 refine (contract (w.forCall tape i) w.heap.size i.args ds gs before hval (DataW.Whole.of_heap (w':=w.forCall tape i) (by rfl) hw) (hX _ _ _ (by rfl) hx) hsh).mono λe W' ⟨v,he,hp⟩=>?_
 subst he
 exact ChangeSpec.post_blind hp
open Go.RowKit
open Sy
def rectW (o:OpN):List (List UInt8):=[Lib.itoa o.x0,Lib.itoa o.y0,Lib.itoa o.x1,Lib.itoa o.y1]
def opW (x:OpF):List (List UInt8) :=
 if x.o.kind=1∨x.o.kind=17 then [Lib.itoa x.o.n,Lib.itoa x.o.m]
 else if x.o.kind=2 then [Lib.itoa x.o.ax,Lib.itoa x.o.ay,Lib.itoa x.o.n]
 else if x.o.kind=3∨x.o.kind=5∨x.o.kind=10∨x.o.kind=11 then rectW x.o++[Lib.itoa x.o.n]
 else if x.o.kind=4 then rectW x.o++[listW x.vals]
 else if x.o.kind=6∨x.o.kind=15 then [Lib.itoa x.o.ax,Lib.itoa x.o.ay]
 else if x.o.kind=7∨x.o.kind=8∨x.o.kind=9∨x.o.kind=20∨x.o.kind=21∨x.o.kind=22 then rectW x.o
 else if x.o.kind=12 then [Lib.itoa x.o.ax,Lib.itoa x.o.ay,Lib.itoa x.o.n,Lib.itoa x.o.bx,Lib.itoa x.o.b_y,Lib.itoa x.o.m]
 else if x.o.kind=13 then [Lib.itoa x.o.ax,Lib.itoa x.o.ay,Lib.itoa x.o.n,Lib.itoa x.o.m,Lib.itoa x.o.bx]
 else if x.o.kind=14∨x.o.kind=23 then [Lib.itoa x.o.n]
 else if x.o.kind=16 then [Lib.itoa x.o.ax,Lib.itoa x.o.ay,Lib.itoa x.o.bx,Lib.itoa x.o.b_y]
 else if x.o.kind=24 then [hexW x.byts]
 else if x.o.kind=27 then rectW x.o++[printT x.bands]
 else []
def named (x:OpF):OpF :=
 if x.o.kind=1∨x.o.kind=17 then ⟨⟨x.o.kind,0,0,0,0,0,0,0,0,x.o.n,x.o.m⟩,[],[],[]⟩
 else if x.o.kind=2 then ⟨⟨x.o.kind,0,0,0,0,x.o.ax,x.o.ay,0,0,x.o.n,0⟩,[],[],[]⟩
 else if x.o.kind=3∨x.o.kind=5∨x.o.kind=10∨x.o.kind=11 then ⟨⟨x.o.kind,x.o.x0,x.o.y0,x.o.x1,x.o.y1,0,0,0,0,x.o.n,0⟩,[],[],[]⟩
 else if x.o.kind=4 then ⟨⟨x.o.kind,x.o.x0,x.o.y0,x.o.x1,x.o.y1,0,0,0,0,0,0⟩,x.vals,[],[]⟩
 else if x.o.kind=6∨x.o.kind=15 then ⟨⟨x.o.kind,0,0,0,0,x.o.ax,x.o.ay,0,0,0,0⟩,[],[],[]⟩
 else if x.o.kind=7∨x.o.kind=8∨x.o.kind=9∨x.o.kind=20∨x.o.kind=21∨x.o.kind=22 then ⟨⟨x.o.kind,x.o.x0,x.o.y0,x.o.x1,x.o.y1,0,0,0,0,0,0⟩,[],[],[]⟩
 else if x.o.kind=12 then ⟨⟨x.o.kind,0,0,0,0,x.o.ax,x.o.ay,x.o.bx,x.o.b_y,x.o.n,x.o.m⟩,[],[],[]⟩
 else if x.o.kind=13 then ⟨⟨x.o.kind,0,0,0,0,x.o.ax,x.o.ay,x.o.bx,0,x.o.n,x.o.m⟩,[],[],[]⟩
 else if x.o.kind=14∨x.o.kind=23 then ⟨⟨x.o.kind,0,0,0,0,0,0,0,0,x.o.n,0⟩,[],[],[]⟩
 else if x.o.kind=16 then ⟨⟨x.o.kind,0,0,0,0,x.o.ax,x.o.ay,x.o.bx,x.o.b_y,0,0⟩,[],[],[]⟩
 else if x.o.kind=24 then ⟨⟨x.o.kind,0,0,0,0,0,0,0,0,0,0⟩,[],x.byts,[]⟩
 else if x.o.kind=27 then ⟨⟨x.o.kind,x.o.x0,x.o.y0,x.o.x1,x.o.y1,0,0,0,0,0,0⟩,[],[],x.bands⟩
 else ⟨⟨x.o.kind,0,0,0,0,0,0,0,0,0,0⟩,[],[],[]⟩
def HasLine (x:OpF):Prop:=1≤x.o.kind∧x.o.kind≤27∧(x.o.kind=27→RightL x.bands)
instance (x:OpF):Decidable (HasLine x):=by unfold HasLine;exact inferInstance
def verbT (k:Int):List UInt8:=verbsL.getD k.toNat []
def lineF (x:OpF):List UInt8:=jn 32 (verbT x.o.kind::opW x)
structure OpF.few (x:OpF):Prop where
 vals:x.vals.length≤3000
 byts:x.byts.length≤3000
 bands:x.bands.length≤40
theorem verb_at {k:Nat} (h:k < 28):verbsL[k]? = some (verbT (k:Int)):=by
 unfold verbT
 rw [Int.toNat_natCast,List.getD_eq_getElem?_getD]
 have h28:verbsL.length=28:=rfl
 rw [List.getElem?_eq_getElem (by omega)]
 rfl
theorem verb_chars:∀ z∈verbsL,(32:UInt8) ∉ z∧z.length≤7:=by decide
theorem verb_mem {k:Int} (h0:0≤k) (h:k < 28):verbT k∈verbsL:=by
 obtain ⟨n,rfl⟩:∃ n:Nat,k=(n:Int):=⟨k.toNat,by omega⟩
 exact List.mem_of_getElem? (verb_at (by omega))
theorem itoa_nosp (n:Int):(32:UInt8) ∉ Lib.itoa n:=by
 obtain ⟨h1,_,_,_⟩:=dec_facts n.natAbs
 have hd:(32:UInt8) ∉ Lib.decDigits n.natAbs:=λh=>by
  have:=isD_iff.1 (h1 _ h)
  have e:(32:UInt8).toNat=32:=rfl
  omega
 unfold Lib.itoa
 split
 ·intro h
  rcases List.mem_cons.1 h with h|h
  ·exact absurd h (by decide)
  ·exact hd h
 ·rename_i c
  rw [show n.toNat=n.natAbs by omega]
  exact hd
theorem hexd_nosp:∀ q:Fin 16,hexd q.val≠32:=by decide
theorem hexT_nosp (b:List UInt8):(32:UInt8) ∉ hexT b:=by
 intro h
 obtain ⟨a,_,h⟩:=List.mem_flatMap.1 h
 have hz:=a.toNat_lt
 simp only [List.mem_cons,List.not_mem_nil,or_false] at h
 rcases h with h|h
 ·exact hexd_nosp ⟨a.toNat / 16,by omega⟩ h.symm
 ·exact hexd_nosp ⟨a.toNat % 16,by omega⟩ h.symm
theorem hexW_nosp (b:List UInt8):(32:UInt8) ∉ hexW b:=by
 unfold hexW
 split
 ·decide
 ·exact hexT_nosp b
theorem jn_nosp {d:UInt8} (hd:d≠32) {ws:List (List UInt8)} (h:∀ w∈ws,(32:UInt8) ∉ w):(32:UInt8) ∉ jn d ws:=by
 have key:∀ {ws:List (List UInt8)},(∀ w∈ws,(32:UInt8) ∉ w)→(32:UInt8) ∉ wds d ws:=λ{ws} h hm=>by
  obtain ⟨w,hw,hm⟩:=List.mem_flatMap.1 hm
  rcases List.mem_cons.1 hm with hm|hm
  ·exact hd hm.symm
  ·exact h w hw hm
 cases ws with
 |nil=>simp [jn_nil]
 |cons w ws =>
  rw [jn_cons]
  intro hm
  rcases List.mem_append.1 hm with hm|hm
  ·exact h w (by simp) hm
  ·exact key (λx hx=>h x (List.mem_cons_of_mem _ hx)) hm
theorem listW_nosp (l:List Int):(32:UInt8) ∉ listW l:=by
 unfold listW
 split
 ·decide
 ·refine jn_nosp (by decide) λw hw=>?_
  obtain ⟨n,_,rfl⟩:=List.mem_map.1 hw
  exact itoa_nosp n
theorem utfN_nosp {c:Nat} (h:SignN c):(32:UInt8) ∉ utfN c:=by
 unfold SignN at h
 have key:∀ n,n < 256→n≠32→(32:UInt8)≠u8 n:=λn h1 h2 e=>by
  have:=congrArg UInt8.toNat e
  rw [u8_nat h1] at this
  exact h2 this.symm
 unfold utfN
 split
 ·simp only [List.mem_singleton];exact key _ (by omega) (by omega)
 ·split
  ·simp only [List.mem_cons,List.not_mem_nil,or_false,not_or]
   exact ⟨key _ (by omega) (by omega),key _ (by omega) (by omega)⟩
  ·simp only [List.mem_cons,List.not_mem_nil,or_false,not_or]
   exact ⟨key _ (by omega) (by omega),key _ (by omega) (by omega),key _ (by omega) (by omega)⟩
theorem bandT_nosp {b:Bd} (h:SignI b.s):(32:UInt8) ∉ bandT b:=by
 unfold bandT
 intro c
 rcases List.mem_append.1 c with c|c
 ·exact itoa_nosp _ c
 ·rcases List.mem_cons.1 c with c|c
  ·exact absurd c (by decide)
  ·exact utfN_nosp h.2 c
theorem joinC_jn:∀ ps:List (List UInt8),joinC ps=jn 44 ps
 |[]=>rfl
 |p::ps=>by rw [jn_cons];rfl
theorem printT_nosp {l:List Bd} (h:RightL l):(32:UInt8) ∉ printT l:=by
 unfold printT
 rw [joinC_jn]
 refine jn_nosp (by decide) λw hw=>?_
 obtain ⟨b,hb,rfl⟩:=List.mem_map.1 hw
 exact bandT_nosp (h.good b hb).2
theorem kinds27 {k:Int} (h1:1≤k) (h2:k≤27):k=1∨k=2∨k=3∨k=4∨k=5∨k=6∨k=7∨k=8∨k=9∨k=10∨k=11∨k=12∨k=13∨k=14∨k=15∨k=16∨k=17∨k=18∨k=19∨k=20∨k=21∨k=22∨k=23∨k=24∨k=25∨k=26∨k=27:=by omega
theorem opW_all {x:OpF} (p:List UInt8→Prop) (h1:1≤x.o.kind) (h2:x.o.kind≤27) (hi:∀ n,(n=x.o.x0∨n=x.o.y0∨n=x.o.x1∨n=x.o.y1∨n=x.o.ax∨n=x.o.ay∨n=x.o.bx∨n=x.o.b_y∨n=x.o.n∨n=x.o.m)→p (Lib.itoa n)) (hl:p (listW x.vals)) (hb:p (hexW x.byts)) (hp:x.o.kind=27→p (printT x.bands)):(opW x).length≤6∧∀ w∈opW x,p w:=by
 obtain ⟨⟨kind,x0,y0,x1,y1,ax,ay,bx,b_y,n,m⟩,vals,byts,bands⟩:=x
 simp only at *
 rcases kinds27 h1 h2 with rfl|rfl|rfl|rfl|rfl|rfl|rfl|rfl|rfl|rfl|rfl|rfl|rfl|rfl|rfl|rfl|rfl|rfl|rfl|rfl|rfl|rfl|rfl|rfl|rfl|rfl|rfl
 all_goals simp only [opW,rectW]
 all_goals simp
 all_goals first
  |done
  |(repeat' apply And.intro)<;>first|exact hi _ (by simp)|exact hl|exact hb|exact hp rfl
theorem opW_nosp {x:OpF} (h:HasLine x):∀ w∈opW x,(32:UInt8) ∉ w :=
 (opW_all (λw=>(32:UInt8) ∉ w) h.1 h.2.1 (λn _=>itoa_nosp n) (listW_nosp _) (hexW_nosp _) λhk=>printT_nosp (h.2.2 hk)).2
theorem line_pcs {x:OpF} (h:HasLine x):pcs 32 (lineF x)=verbT x.o.kind::opW x:=by
 obtain ⟨h1,h2,h3⟩:=h
 refine pcs_jn (by simp) λw hw=>?_
 rcases List.mem_cons.1 hw with rfl|hw
 ·exact (verb_chars _ (verb_mem (by omega) (by omega))).1
 ·exact opW_nosp ⟨h1,h2,h3⟩ w hw
theorem hexW_len (b:List UInt8):(hexW b).length≤2 * b.length+1:=by
 unfold hexW
 split
 ·simp
 ·rw [hexT_len];omega
theorem opW_len {x:OpF} (ok:x.ok) (few:x.few) (h:HasLine x):(opW x).length≤6∧∀ w∈opW x,w.length≤70000:=by
 have l1:=listW_len ok.vals
 have l2:=hexW_len x.byts
 have f1:=few.vals
 have f2:=few.byts
 have i:=λ{n:Int} (h:I64 n)=>itoa_len20 h
 have a1:=i ok.o.x0
 have a2:=i ok.o.y0
 have a3:=i ok.o.x1
 have a4:=i ok.o.y1
 have a5:=i ok.o.ax
 have a6:=i ok.o.ay
 have a7:=i ok.o.bx
 have a8:=i ok.o.b_y
 have a9:=i ok.o.n
 have a10:=i ok.o.m
 refine opW_all (λw=>w.length≤70000) h.1 h.2.1 (λn hn=>?_) (by omega) (by omega) λhk=>by have:=printT_len (h.2.2 hk);omega
 rcases hn with rfl|rfl|rfl|rfl|rfl|rfl|rfl|rfl|rfl|rfl<;>omega
theorem line_len {x:OpF} (ok:x.ok) (few:x.few) (h:HasLine x):(lineF x).length≤500000:=by
 obtain ⟨h1,h2⟩:=opW_len ok few h
 unfold lineF
 rw [jn_cons,List.length_append]
 have h3:=(verb_chars _ (verb_mem (k:=x.o.kind) (by have:=h.1;omega) (by have:=h.2.1;omega))).2
 have h4:=wds_len (c:=32) h2
 have h5:(opW x).length * (70000+1)≤6 * 70001:=Nat.mul_le_mul_right _ h1
 omega
theorem sCaughtNil {R:HP} {eb:Nat}:PureR Tryz.prog R 12 [.nilIface,.pointer (some ⟨eb,0,none⟩)] (.tuple #[]):=by
 refine fn_of_run0 false Tryz.func12 rfl hmix rfl λw0=>?_
 conv=>whnf
 refine iff_t rfl ?_
 conv=>whnf
 exact ⟨trivial,fin_pure rfl rfl⟩
theorem sCaught {R:HP} {eb:Nat} {v:Value} (z:Int):FnR Tryz.prog R 12 [.iface 73 (.agg #[.int .i64 z]),.pointer (some ⟨eb,0,none⟩)] [ebH eb v] λr hs=>r=.tuple #[]∧hs=[ebH eb (.int .i64 z)]:=by
 refine fn_of_run0 false Tryz.func12 rfl hmix rfl λw0=>?_
 conv=>whnf
 refine iff_f rfl ?_
 conv=>whnf
 refine ⟨trivial,OpAt.store eb 0 (.int .i64 z) _ rfl (λh s=>s) rfl rfl rfl rfl rfl (by simp [Value.cells,Value.oneCell']) (λh r=>blk_put (by show 0+1≤1;omega) r) ?_⟩
 conv=>whnf
 exact ⟨trivial,.mk [ebH eb (.int .i64 z)] (λw s=>s) ⟨rfl,rfl⟩⟩
namespace Sy
set_option linter.unusedVariables false
set_option linter.unusedSimpArgs false
set_option maxRecDepth 100000
set_option maxHeartbeats 4000000
theorem cls_of_run2 {P:Program} {R:HP} {f:FuncId} {fn:Func} {id d:Nat} {orec o2:Oper} {rest:Code} {args:List Value} {pre:List HP} {mid:List HP→Prop} {u u':FrameMode} {r:Value} (tr:Bool)
  (hf:P.funcs[f]? = some fn) (hb:fn.body=some (.seq (.region id #[orec,o2] false) rest)) (hm:P.follows .mixedOrders=true) (hN:Nat.ble args.length fn.ntmps=true) (hres:fn.results=#[])
  (ho:orec.op=.call { callee:=.builtin .recover,args:=#[],argTypes:=#[] }) (hg:orec.guard=none) (hdst:orec.dst=some d) (hg2:o2.guard=none) (hu:RecAt u r u')
  (h:∀ w0,putK (gl P R w0 fn.ntmps tr []) ⟨startT 0 (toSVs args),[],0,pre,True⟩ (some d) (.v r) none λst=>op1 (gl P R w0 fn.ntmps tr []) o2 st λst=>run (gl P R w0 fn.ntmps tr []) rest st (endK (gl P R w0 fn.ntmps tr []) mid) (λ_ _=>False) (endK (gl P R w0 fn.ntmps tr []) mid)) :
  ∀ w,Sat (sepL pre R) w→CallsD P f args.toArray u w λe x w'=>(∃ v,e=.returned v)∧x=u'∧∃ hs,mid hs∧Sat (sepL hs R) w'∧Wd w w':=by
 intro w hs
 have hN:=Nat.le_of_ble_eq_true hN
 refine callsD_of_wpS hf hb λc₀ cs hc=>?_
 refine wpS_seq (wpS_region ?_)
 have hG:Good λst=>run (gl P R w fn.ntmps tr []) rest st (endK (gl P R w fn.ntmps tr []) mid) (λ_ _=>False) (endK (gl P R w fn.ntmps tr []) mid):=λst h=>(run_sound hm rest h good_end (λ_ _ h=>h.elim) good_end).1
 have hG1:Good λst=>op1 (gl P R w fn.ntmps tr []) o2 st λst=>run (gl P R w fn.ntmps tr []) rest st (endK (gl P R w fn.ntmps tr []) mid) (λ_ _=>False) (endK (gl P R w fn.ntmps tr []) mid):=λst h=>(op1_sound h hG).1
 obtain ⟨_,hp⟩:=putK_sound (h w) hG1
 obtain ⟨st',k,m',mm'⟩:=hp [] _ w r rfl (start_tm (N:=fn.ntmps) hN rfl rfl rfl) (start_mem (G:=gl P R w fn.ntmps tr []) rfl rfl hs)
 have hres2:∀ (tmps:Array Value) (w':World),(results fn tmps).run P w'=.ok (.tuple #[]) w':=λtmps w'=>results_run (vs:=[]) (by rw [hres];rfl)
 have fin:∀ cs':List Frame,cs'={ c₀ with mode:=u' }::cs→∀ (e:Exit),(e=.normal∨e=.ret)→∀ st ρ a w',endK (gl P R w fn.ntmps tr []) mid st→Tm (gl P R w fn.ntmps tr []) st ρ a→Mem (gl P R w fn.ntmps tr []) st ρ w' →
   bodyPostS P fn c₀ cs (λe x w'=>(∃ v,e=.returned v)∧x=u'∧∃ hs,mid hs∧Sat (sepL hs R) w'∧Wd w w') e a cs' w':=by
  rintro cs' rfl e he st ρ a w' k m mm
  obtain ⟨hs,k1,k2,_⟩:=endK_sound k m mm
  rcases he with rfl|rfl
  ·exact ⟨m.defs,u',rfl,_,hres2 _ _,⟨_,rfl⟩,rfl,hs,k1,k2,mm.wd⟩
  ·exact ⟨m.defs,u',rfl,_,hres2 _ _,⟨_,rfl⟩,rfl,hs,k1,k2,mm.wd⟩
 have go:∀ cs':List Frame,cs'={ c₀ with mode:=u' }::cs→wpOpsS P #[orec,o2] (Exit.thenS (rest.wpS P (bodyPostS P fn c₀ cs λe x w'=>(∃ v,e=.returned v)∧x=u'∧∃ hs,mid hs∧Sat (sepL hs R) w'∧Wd w w')) (bodyPostS P fn c₀ cs λe x w'=>(∃ v,e=.returned v)∧x=u'∧∃ hs,mid hs∧Sat (sepL hs R) w'∧Wd w w')) [1] (Act.put { tmps:=args.toArray++Array.replicate (fn.ntmps - args.toArray.size) undef,defers:=[] } (some d) r) cs' w:=by
  intro cs' hcs
  have W:=(op1_sound k hG).2 [] _ w (λe a' w'=>Exit.thenS (rest.wpS P (bodyPostS P fn c₀ cs λe x w'=>(∃ v,e=.returned v)∧x=u'∧∃ hs,mid hs∧Sat (sepL hs R) w'∧Wd w w')) (bodyPostS P fn c₀ cs λe x w'=>(∃ v,e=.returned v)∧x=u'∧∃ hs,mid hs∧Sat (sepL hs R) w'∧Wd w w') e a' cs' w') (λe a w' hp=>by obtain ⟨_,_,_,_,hf,_⟩:=hp;exact hf.elim) m' mm'
  have W2:=Oper.wp_mono (K':=λa' w'=>wpOpsS P #[orec,o2] (Exit.thenS (rest.wpS P (bodyPostS P fn c₀ cs λe x w'=>(∃ v,e=.returned v)∧x=u'∧∃ hs,mid hs∧Sat (sepL hs R) w'∧Wd w w')) (bodyPostS P fn c₀ cs λe x w'=>(∃ v,e=.returned v)∧x=u'∧∃ hs,mid hs∧Sat (sepL hs R) w'∧Wd w w')) [] a' cs' w') (λa' w1 ⟨st2,ρ2,k2,m2,mm2⟩=>by
   have hr1:=run_sound (G:=gl P R w fn.ntmps tr []) hm rest k2 good_end (λ_ _ h=>h.elim) good_end
   show rest.wpS P _ a' cs' w1
   exact wpS_of_wp (hr1.2 ρ2 a' w1 _ (λe a w' hp=>by obtain ⟨_,_,_,_,hf,_⟩:=hp;exact hf.elim) m2 mm2 (fin cs' hcs .normal (.inl rfl)) (λ_ _ _ _ _ h=>h.elim) (fin cs' hcs .ret (.inr rfl)))) W
  unfold wpOpsS
  have e2:(#[orec,o2]:Array Oper)[1]? = some o2:=rfl
  simp only [e2,wanted_none hg2,if_true]
  have W3:Oper.upon P o2 (Act.put { tmps:=args.toArray++Array.replicate (fn.ntmps - args.toArray.size) undef,defers:=[] } (some d) r) _ _ ((execOp (Act.put { tmps:=args.toArray++Array.replicate (fn.ntmps - args.toArray.size) undef,defers:=[] } (some d) r).eval o2).run P w):=W2
  split
  ·rename_i w1 heq
   rw [heq] at W3
   exact W3.elim
  ·exact W3
 have hrun:∀ ev:Operand→Value,(execOp ev orec).run P w=.ok .recover w:=λev=>by
  simp [execOp,ho,resolve,invoke,builtin]
 have hwt:∀ y,Region.wanted orec y=true:=λy=>wanted_none hg y
 show wpOpsS P #[orec,o2] _ [0,1] _ _ w
 unfold wpOpsS
 have e1:(#[orec,o2]:Array Oper)[0]? = some orec:=rfl
 simp only [e1,hwt,if_true,hrun,hdst]
 rcases hu c₀ cs hc with e|⟨e,rfl,rfl⟩
 ·rw [e]
  exact go _ rfl
 ·rw [e]
  refine go _ ?_
  rw [← hc]
end Sy
theorem clsIdleP {R:HP} {eb ob:Nat} {cs:Array Value}:∀ w,Sat (sepL [ebH eb (.int .i64 0),blkH ob 31 cs] R) w→CallsD Tryz.prog 11 [Value.pointer (some ⟨eb,0,none⟩),.pointer (some ⟨ob,0,none⟩)].toArray .returning w λe x w'=>(∃ v,e=.returned v)∧x=.returning∧∃ hs,hs=[ebH eb (.int .i64 0),blkH ob 31 cs]∧Sat (sepL hs R) w'∧Wd w w':=by
 refine cls_of_run2 false Tryz.func11 rfl hmix rfl rfl rfl rfl rfl rfl rec_idle λw0=>?_
 conv=>whnf
 refine ⟨trivial,CallAt.pure (λR' hR'=>sCaughtNil) ?_⟩
 conv=>whnf
 refine ⟨trivial,LoadAt.cell (.int .i64 0) rfl rfl (λw hw=>blk_cell (hw.in_ 0 rfl) rfl) ?_⟩
 conv=>whnf
 refine iff_f rfl ?_
 conv=>whnf
 exact ⟨trivial,⟨_,λw s=>s,trivial,rfl⟩⟩
theorem results_agg {P:Program} {fn:Func} {tmps:Array Value} {i j:Nat} {t s:TypeId} {p q:Nat} {dt ds:TypeDesc} {vs:List Value} {u:Value} {w:World} (hr:fn.results=#[.cell i t,.cell j s]) (ht:P.underlying t=some dt) (hdt:dt.isRow=true) (hti:(P.info? t).map (·.size)=some vs.length) (hs:P.underlying s=some ds) (hds:ds.isRow=false)
  (hi:tmps.getD i undef=.pointer (some ⟨p,0,none⟩)) (hj:tmps.getD j undef=.pointer (some ⟨q,0,none⟩)) (hv:∀ (k:Nat) v,vs[k]? = some v→w.cell? ⟨p,0+k,none⟩=some v) (hu:w.cell? ⟨q,0,none⟩=some u):(results fn tmps).run P w=.ok (.tuple #[.agg vs.toArray,u]) w:=by
 have k1:(loadVar t ⟨p,0,none⟩).run P w=.ok (.agg vs.toArray) w:=run_loadVar_mid w p 0 t vs dt (λk v h=>hv k v h) ht hdt hti
 have k2:(loadVar s ⟨q,0,none⟩).run P w=.ok u w:=by
  have hagg:(isAgg s).run P w=.ok false w:=by
   unfold isAgg
   rw [Sem.run_bind,run_underlying hs w]
   cases ds<;>simp_all
  simp [loadVar,hagg,load,Sem.run,hu]
 refine results_run (vs:=[.agg vs.toArray,u]) ?_
 rw [hr]
 show Sem.run P ([ResultVar.cell i t,.cell j s].mapM (rv tmps)) w=_
 have r1:(rv tmps (.cell i t)).run P w=.ok (.agg vs.toArray) w:=by simp only [rv,hi,asAddr,Sem.run_bind,Sem.run_pure,Result.andThen_ok,k1]
 have r2:(rv tmps (.cell j s)).run P w=.ok u w:=by simp only [rv,hj,asAddr,Sem.run_bind,Sem.run_pure,Result.andThen_ok,k2]
 rw [List.mapM_cons,List.mapM_cons]
 simp [r1,r2]
theorem putL_all {xs ys:List Value} (h:xs.length=ys.length):putL xs 0 ys=ys:=by
 unfold putL
 simp [h]
theorem sParseOf {R:HP} {s:ByteArray} {Q:List Value→List HP→Prop} (hp:∀ R':HP,(∀ w,Sat R' w→Sat R w)→FnR Tryz.prog R' 13 [.string s] [] λr hs=>∃ vs,r=.agg vs.toArray∧vs.length=14∧(∀ u∈vs,u.oneCell'=true)∧Q vs hs) :
  FnR Tryz.prog R 5 [.string s] [] λr hs=>∃ vs,r=.tuple #[.agg vs.toArray,.int .i64 0]∧vs.length=14∧Q vs hs:=by
 refine fn_of_defer false Tryz.func5 rfl hmix rfl (os1:=[_]) rfl rfl rfl rfl λw0=>?_
 conv=>whnf
 intro eb _
 conv=>whnf
 intro ob _
 conv=>whnf
 refine ⟨trivial,DefAt.mk 11 [.pointer (some ⟨eb,0,none⟩),.pointer (some ⟨ob,0,none⟩)] (λ_=>False) R [(2,.pointer (some ⟨ob,0,none⟩)),(3,.pointer (some ⟨eb,0,none⟩))] (λhs=>∃ vs rows,Q vs rows∧vs.length=14∧hs=ebH eb (.int .i64 0)::blkH ob 31 vs.toArray::rows) rfl rfl ⟨?_,λ_ h=>h.elim⟩ ?_⟩
 ·rintro hs ⟨vs,rows,hQ,hl,rfl⟩ w a sat wd ax
  refine leaves_one (by kernel_rfl) (λe=>by cases e) ?_
  refine CallsD.mono (clsIdleP (R:=sepL rows R) w sat) ?_
  rintro e u' w' ⟨hv,rfl,hs,rfl,s',wd'⟩
  refine ⟨hv,rfl,.tuple #[.agg vs.toArray,.int .i64 0],results_agg rfl Tryz.underlying31 rfl (by rw [hl];kernel_rfl) Tryz.underlying32 rfl (ax (2,_) List.mem_cons_self) (ax (3,_) (List.mem_cons_of_mem _ List.mem_cons_self)) (λk v hk=>?_) (blk_cell (s'.in_ 0 rfl) rfl),_,rows,rfl,⟨vs,rfl,hl,hQ⟩,?_,wd.trans wd'⟩
  ·rw [Nat.zero_add]
   exact blk_cell (s'.in_ 1 rfl) (by simpa using hk)
  ·exact s'.rest
 conv=>whnf
 refine ⟨trivial,CallAt.fn (pre:=[]) _ (λh s=>s) (λR' hR'=>hp R' λw s=>(hR' w s).rest) ?_⟩
 rintro r hs ⟨vs,rfl,hl,h1,hQ⟩
 conv=>whnf
 refine ⟨trivial,OpAt.store (A':=blkH ob 31 vs.toArray) ob 0 (.agg vs.toArray) (blkH eb 32 #[.int .i64 0]::hs) rfl (λh s=>sepL_perm List.perm_append_comm s) rfl rfl rfl rfl (by show vs.toArray.size=14;simpa using hl) (by simpa [Value.cells] using h1) (λh r=>?_) ?_⟩
 ·have hb:=blk_put (off:=0) (ys:=vs) (by show 0+vs.length≤14;omega) r
  rw [putL_all (by show 14=vs.length;omega)] at hb
  exact hb
 conv=>whnf
 refine ⟨trivial,OpAt.store (A':=ebH eb (.int .i64 0)) eb 0 (.int .i64 0) (blkH ob 31 vs.toArray::hs) rfl (λh s=>sepL_perm (List.Perm.swap _ _ _) s) rfl rfl rfl rfl rfl (by simp [Value.cells,Value.oneCell']) (λh r=>blk_put (by show 0+1≤1;omega) r) ?_⟩
 conv=>whnf
 exact ⟨trivial,⟨ebH eb (.int .i64 0)::blkH ob 31 vs.toArray::hs,λw s=>s,⟨rfl,rfl,trivial⟩,⟨vs,hs,hQ,hl,rfl⟩⟩⟩
end Go.Proofs.YtcoefgkjlgngkaaGreatDoor
