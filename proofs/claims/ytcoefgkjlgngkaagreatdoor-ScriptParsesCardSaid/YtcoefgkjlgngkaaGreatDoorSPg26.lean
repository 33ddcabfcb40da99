/-
  Texts of the proofs, one behind the other: ScKl, ScKm.
-/
import Derived.Test.YtcoefgkjlgngkaaGreatDoorSPg25
namespace Go.Proofs.YtcoefgkjlgngkaaGreatDoor
open Go.RowKit
open Sy
set_option linter.unusedVariables false
set_option linter.unusedSimpArgs false
set_option maxRecDepth 100000
set_option maxHeartbeats 4000000
theorem clsPanP {R:HP} {eb ob:Nat}:∀ w,Sat (sepL [ebH eb (.int .i64 0),blkH ob 31 (opZ 0)] R) w→CallsD Tryz.prog 11 [Value.pointer (some ⟨eb,0,none⟩),.pointer (some ⟨ob,0,none⟩)].toArray (.panicking thrownCh) w λe x w'=>(∃ v,e=.returned v)∧x=.panicking [{ v:=.iface 73 (.agg #[.int .i64 12]),recovered:=true }]∧∃ hs,hs=[ebH eb (.int .i64 12),blkH ob 31 (opZ 0)]∧Sat (sepL hs R) w'∧Wd w w':=by
 refine cls_of_run2 false Tryz.func11 rfl hmix rfl rfl rfl rfl rfl rfl (rec_pan _) λw0=>?_
 conv=>whnf
 refine ⟨trivial,CallAt.fn (pre:=[ebH eb (.int .i64 0)]) _ (λh s=>s) (λR' hR'=>sCaught 12) ?_⟩
 rintro r hs ⟨rfl,rfl⟩
 conv=>whnf
 refine ⟨trivial,LoadAt.cell (.int .i64 12) rfl rfl (λw hw=>blk_cell (hw.in_ 0 rfl) rfl) ?_⟩
 conv=>whnf
 refine iff_t rfl ?_
 conv=>whnf
 refine ⟨trivial,OpAt.store (A':=blkH ob 31 (opZ 0)) ob 0 (.agg (opZ 0)) [ebH eb (.int .i64 12)] rfl (λh s=>sepL_pull 1 s) rfl rfl rfl rfl (by kernel_rfl) (by simp [Value.cells,opZ,opC,Value.oneCell']) (λh r=>?_) ?_⟩
 ·have hb:=blk_put (off:=0) (ys:=(opZ 0).toList) (by show 0+14≤14;omega) r
  rw [putL_all (by rfl)] at hb
  exact hb
 conv=>whnf
 exact ⟨trivial,⟨[ebH eb (.int .i64 12),blkH ob 31 (opZ 0)],λw ⟨h,h1,s⟩=>⟨h,h1,sepL_pull 1 s⟩,trivial,rfl⟩⟩
theorem sParseNo {R:HP} {s:ByteArray} (hp:∀ R':HP,(∀ w,Sat R' w→Sat R w)→PanR Tryz.prog R' 13 [.string s] [] isThrown R') :
  FnR Tryz.prog R 5 [.string s] [] λr hs=>r=.tuple #[.agg (opZ 0),.int .i64 12]∧hs=[]:=by
 refine fn_of_defer false Tryz.func5 rfl hmix rfl (os1:=[_]) rfl rfl rfl rfl λw0=>?_
 conv=>whnf
 intro eb _
 conv=>whnf
 intro ob _
 conv=>whnf
 refine ⟨trivial,DefAt.mk 11 [.pointer (some ⟨eb,0,none⟩),.pointer (some ⟨ob,0,none⟩)] isThrown (sepL [ebH eb (.int .i64 0),blkH ob 31 (opZ 0)] R) [(2,.pointer (some ⟨ob,0,none⟩)),(3,.pointer (some ⟨eb,0,none⟩))] (λ_=>False) rfl rfl ⟨λ_ h=>h.elim,?_⟩ ?_⟩
 ·rintro ch rfl w a sat wd ax
  refine leaves_one (by kernel_rfl) (λe=>by cases e) ?_
  refine CallsD.mono (clsPanP (R:=R) w sat) ?_
  rintro e u' w' ⟨hv,rfl,hs,rfl,s',wd'⟩
  refine ⟨hv,rfl,.tuple #[.agg (opZ 0),.int .i64 12],results_agg (vs:=(opZ 0).toList) rfl Tryz.underlying31 rfl (by kernel_rfl) Tryz.underlying32 rfl (ax (2,_) List.mem_cons_self) (ax (3,_) (List.mem_cons_of_mem _ List.mem_cons_self)) (λk v hk=>?_) (blk_cell (s'.in_ 0 rfl) rfl),_,[],rfl,⟨rfl,rfl⟩,?_,wd.trans wd'⟩
  ·rw [Nat.zero_add]
   exact blk_cell (s'.in_ 1 rfl) (by simpa using hk)
  ·exact s'.rest
 conv=>whnf
 exact ⟨trivial,CallAt.panS (λR' hR'=>hp R' λw s=>(hR' w s).rest) (λch h=>h) (λw ⟨h,h1,s⟩=>⟨h,h1,sepL_perm (List.Perm.swap _ _ _) s⟩) ⟨rfl,rfl,trivial⟩⟩
theorem sParseYes {R:HP} {s:List UInt8} {z:List UInt8} {ws:List (List UInt8)} {k:Nat} {Q:OpA→OpF→List HP→Prop} (hV:∀ w,Sat R w→VerbsW w) (hM:∀ w,Sat R w→MaxW w) (hl:s.length≤999999) (hs:pcs 32 s=z::ws) (hK:kd z 28≠0) (hk:k=ws.length+1) (hp:PartsAt R z ws k Q) :
  FnR Tryz.prog R 5 [.string (bs s)] [] λr hs=>∃ q y,r=.tuple #[.agg (opCs q y),.int .i64 0]∧Q q y hs:=by
 refine (sParseOf (R:=R) (Q:=λvs hs=>∃ q y,vs=(opCs q y).toList∧Q q y hs) λR' h=>?_).post ?_
 ·refine (sParseL (λw s=>hV w (h w s)) (λw s=>hM w (h w s)) hl hs hK hk λR2 lb B ob h2 h3=>hp R2 lb B ob (λw s=>h w (h2 w s)) h3).post ?_
  rintro v hs ⟨q,y,rfl,hQ⟩
  exact ⟨hs,⟨(opCs q y).toList,rfl,rfl,by simp [opCs,opC,Value.oneCell'],q,y,rfl,hQ⟩,λh s=>s⟩
 ·rintro v hs ⟨vs,rfl,_,q,y,rfl,hQ⟩
  exact ⟨hs,⟨q,y,rfl,hQ⟩,λh s=>s⟩
def OpH (q:OpA) (y:OpF) (H:HP):Prop:=∀ R':HP,(∀ w,Sat R' w→Sat H w)→OpS R' q y
def QN (x:OpF) (q:OpA) (y:OpF) (rows:List HP):Prop:=y=named x∧∃ H,rows=[H]∧OpH q y H
theorem emp_in {R:HP} {h:Hl} (r:R h):sepL [emp] R h:=⟨λ_=>none,h,λ_=>.inl rfl,(emp_un (λ_=>rfl)).symm,λ_=>rfl,r⟩
theorem emp_add {R:HP} {l:List HP} {h:Hl} (s:sepL l R h):sepL (l++[emp]) R h:=by
 rw [sepL_append]
 exact sepL_mono (λh r=>emp_in r) s
def qNil:OpA:=⟨none,0,none,0,none,0⟩
theorem opH_nil {o:OpN}:OpH qNil ⟨o,[],[],[]⟩ emp:=λR' _=>⟨Sl.nil _ _ _,Sl.nil _ _ _,Sl.nil _ _ _,⟨Nat.le_refl _,Nat.zero_le _⟩,⟨Nat.le_refl _,Nat.zero_le _⟩,⟨Nat.le_refl _,Nat.zero_le _⟩⟩
theorem kd_verb':∀ k:Fin 28,1≤k.val→kd (verbT (k.val:Int)) 28=(k.val:Int):=by decide
theorem kd_verb {k:Int} (h1:1≤k) (h2:k≤27):kd (verbT k) 28=k:=by
 obtain ⟨n,rfl⟩:∃ n:Nat,k=(n:Int):=⟨k.toNat,by omega⟩
 exact kd_verb' ⟨n,by omega⟩ (by simp only;omega)
theorem nums_of {z:List UInt8} {zs:List Int} {rest:List (List UInt8)} (h:∀ n∈zs,I64 n):Nums (z::(zs.map Lib.itoa++rest)) 1 zs:=by
 intro i hi
 have hz:=h _ (List.getElem_mem hi)
 have h20:=itoa_len20 hz
 refine ⟨Lib.itoa zs[i],?_,read_itoa _ hz.1 hz.2,by omega⟩
 rw [Nat.add_comm,List.getElem?_cons_succ,List.getElem?_append_left (by simpa using hi)]
 simp [hi]
theorem row_capO {A:Option Addr} {n c size:Nat} {e:TypeId} {xs:List Value} {w:World} (s:Sat (rowH (.slice A n c) n e size xs) w):n≤c∧c≤maxLen:=by
 obtain ⟨h,_,_,r⟩:=s
 rcases r with ⟨e,h0,_⟩|⟨g,cap,cur,e,_,h1,h2,_⟩
 ·injection e with e1 e2 e3
  subst e2 e3
  exact ⟨Nat.le_refl _,Nat.zero_le _⟩
 ·injection e with _ _ e
  omega
theorem partsN {R:HP} {x:OpF} (hW:∀ w,Sat R w→ReadW w) (ok:x.ok) (few:x.few) (hl:HasLine x):PartsAt R (verbT x.o.kind) (opW x) ((opW x).length+1) (QN x):=by
 obtain ⟨h1,h2,h3⟩:=hl
 have hkd:=kd_verb h1 h2
 have f1:=few.vals
 have f2:=few.byts
 intro R' lb B ob hr hw
 have hW:∀ w,Sat R' w→ReadW w:=λw s=>hW w (hr w s)
 have hN:∀ w,Sat R' w→NumW w:=λw s=>(hW w s).1
 have hM:∀ w,Sat R' w→MaxW w:=λw s=>(hW w s).2
 rw [hkd]
 obtain ⟨⟨kind,x0,y0,x1,y1,ax,ay,bx,b_y,n,m⟩,vals,byts,bands⟩:=x
 have ko:=ok.o
 have kv:=ok.vals
 simp only at *
 clear hkd
 rcases kinds27 h1 h2 with rfl|rfl|rfl|rfl|rfl|rfl|rfl|rfl|rfl|rfl|rfl|rfl|rfl|rfl|rfl|rfl|rfl|rfl|rfl|rfl|rfl|rfl|rfl|rfl|rfl|rfl|rfl
 ·refine (sTakeNM (R:=R') (lb:=lb) (b0:=B) (off:=0) (k0:=1) (ws:=verbT 1::opW _) (o:=⟨1,x0,y0,x1,y1,ax,ay,bx,b_y,n,m⟩) hN ko (nums_of (rest:=[]) (zs:=[n,m]) λz hz=>?_) rfl ?_ (Nat.le_refl _) hw (by simp)).post ?_
  ·simp only [List.mem_cons,List.not_mem_nil,or_false] at hz
   rcases hz with rfl|rfl<;>first|exact ko.n|exact ko.m
  ·exact Nat.le_of_ble_eq_true rfl
  ·rintro v hs ⟨rfl,rfl⟩
   exact ⟨_,⟨rfl,qNil,_,[emp],rfl,rfl,rfl,emp,rfl,opH_nil⟩,λh s=>emp_add s⟩
 ·refine (sTakeAN (R:=R') (lb:=lb) (b0:=B) (off:=0) (k0:=1) (ws:=verbT 2::opW _) (o:=⟨2,x0,y0,x1,y1,ax,ay,bx,b_y,n,m⟩) hN ko (nums_of (rest:=[]) (zs:=[ax,ay,n]) λz hz=>?_) rfl ?_ (Nat.le_refl _) hw rfl).post ?_
  ·simp only [List.mem_cons,List.not_mem_nil,or_false] at hz
   rcases hz with rfl|rfl|rfl<;>first|exact ko.ax|exact ko.ay|exact ko.n
  ·exact Nat.le_of_ble_eq_true rfl
  ·rintro v hs ⟨rfl,rfl⟩
   exact ⟨_,⟨rfl,qNil,_,[emp],rfl,rfl,rfl,emp,rfl,opH_nil⟩,λh s=>emp_add s⟩
 ·refine (sTakeRN (R:=R') (lb:=lb) (b0:=B) (off:=0) (k0:=1) (ws:=verbT 3::opW _) (o:=⟨3,x0,y0,x1,y1,ax,ay,bx,b_y,n,m⟩) hN ko (nums_of (rest:=[]) (zs:=[x0,y0,x1,y1,n]) λz hz=>?_) rfl ?_ (Nat.le_refl _) hw (by simp)).post ?_
  ·simp only [List.mem_cons,List.not_mem_nil,or_false] at hz
   rcases hz with rfl|rfl|rfl|rfl|rfl<;>first|exact ko.x0|exact ko.y0|exact ko.x1|exact ko.y1|exact ko.n
  ·exact Nat.le_of_ble_eq_true rfl
  ·rintro v hs ⟨rfl,rfl⟩
   exact ⟨_,⟨rfl,qNil,_,[emp],rfl,rfl,rfl,emp,rfl,opH_nil⟩,λh s=>emp_add s⟩
 ·refine FnR.seen (sTakePaste (R:=R') (lb:=lb) (b0:=B) (off:=0) (k0:=1) (ws:=verbT 4::opW _) (o:=⟨4,x0,y0,x1,y1,ax,ay,bx,b_y,n,m⟩) hN hM ko vals rfl (by omega) kv (nums_of (rest:=[listW vals]) (zs:=[x0,y0,x1,y1]) λz hz=>?_) rfl rfl ?_ (Nat.le_refl _) hw rfl) ?_
  ·simp only [List.mem_cons,List.not_mem_nil,or_false] at hz
   rcases hz with rfl|rfl|rfl|rfl<;>first|exact ko.x0|exact ko.y0|exact ko.x1|exact ko.y1
  ·exact Nat.le_of_ble_eq_true rfl
  ·rintro v hs ⟨rfl,D,cd,rfl⟩ w sw
   refine ⟨_,⟨rfl,⟨D,cd,none,0,none,0⟩,_,[rowH (.slice D vals.length cd) vals.length 2 1 (vals.flatMap numL)],rfl,rfl,rfl,_,rfl,λR2 h2=>⟨Sl.row h2,Sl.nil _ _ _,Sl.nil _ _ _,?_,⟨Nat.le_refl _,Nat.zero_le _⟩,⟨Nat.le_refl _,Nat.zero_le _⟩⟩⟩,sw⟩
   exact row_capO (sw.in_ 2 rfl)
 ·refine (sTakeRN (R:=R') (lb:=lb) (b0:=B) (off:=0) (k0:=1) (ws:=verbT 5::opW _) (o:=⟨5,x0,y0,x1,y1,ax,ay,bx,b_y,n,m⟩) hN ko (nums_of (rest:=[]) (zs:=[x0,y0,x1,y1,n]) λz hz=>?_) rfl ?_ (Nat.le_refl _) hw (by simp)).post ?_
  ·simp only [List.mem_cons,List.not_mem_nil,or_false] at hz
   rcases hz with rfl|rfl|rfl|rfl|rfl<;>first|exact ko.x0|exact ko.y0|exact ko.x1|exact ko.y1|exact ko.n
  ·exact Nat.le_of_ble_eq_true rfl
  ·rintro v hs ⟨rfl,rfl⟩
   exact ⟨_,⟨rfl,qNil,_,[emp],rfl,rfl,rfl,emp,rfl,opH_nil⟩,λh s=>emp_add s⟩
 ·refine (sTakeA (R:=R') (lb:=lb) (b0:=B) (off:=0) (k0:=1) (ws:=verbT 6::opW _) (o:=⟨6,x0,y0,x1,y1,ax,ay,bx,b_y,n,m⟩) hN ko (nums_of (rest:=[]) (zs:=[ax,ay]) λz hz=>?_) rfl ?_ (Nat.le_refl _) hw (by simp)).post ?_
  ·simp only [List.mem_cons,List.not_mem_nil,or_false] at hz
   rcases hz with rfl|rfl<;>first|exact ko.ax|exact ko.ay
  ·exact Nat.le_of_ble_eq_true rfl
  ·rintro v hs ⟨rfl,rfl⟩
   exact ⟨_,⟨rfl,qNil,_,[emp],rfl,rfl,rfl,emp,rfl,opH_nil⟩,λh s=>emp_add s⟩
 ·refine (sTakeR (R:=R') (lb:=lb) (b0:=B) (off:=0) (k0:=1) (ws:=verbT 7::opW _) (o:=⟨7,x0,y0,x1,y1,ax,ay,bx,b_y,n,m⟩) hN ko (nums_of (rest:=[]) (zs:=[x0,y0,x1,y1]) λz hz=>?_) rfl ?_ (Nat.le_refl _) hw (by simp)).post ?_
  ·simp only [List.mem_cons,List.not_mem_nil,or_false] at hz
   rcases hz with rfl|rfl|rfl|rfl<;>first|exact ko.x0|exact ko.y0|exact ko.x1|exact ko.y1
  ·exact Nat.le_of_ble_eq_true rfl
  ·rintro v hs ⟨rfl,rfl⟩
   exact ⟨_,⟨rfl,qNil,_,[emp],rfl,rfl,rfl,emp,rfl,opH_nil⟩,λh s=>emp_add s⟩
 ·refine (sTakeR (R:=R') (lb:=lb) (b0:=B) (off:=0) (k0:=1) (ws:=verbT 8::opW _) (o:=⟨8,x0,y0,x1,y1,ax,ay,bx,b_y,n,m⟩) hN ko (nums_of (rest:=[]) (zs:=[x0,y0,x1,y1]) λz hz=>?_) rfl ?_ (Nat.le_refl _) hw (by simp)).post ?_
  ·simp only [List.mem_cons,List.not_mem_nil,or_false] at hz
   rcases hz with rfl|rfl|rfl|rfl<;>first|exact ko.x0|exact ko.y0|exact ko.x1|exact ko.y1
  ·exact Nat.le_of_ble_eq_true rfl
  ·rintro v hs ⟨rfl,rfl⟩
   exact ⟨_,⟨rfl,qNil,_,[emp],rfl,rfl,rfl,emp,rfl,opH_nil⟩,λh s=>emp_add s⟩
 ·refine (sTakeR (R:=R') (lb:=lb) (b0:=B) (off:=0) (k0:=1) (ws:=verbT 9::opW _) (o:=⟨9,x0,y0,x1,y1,ax,ay,bx,b_y,n,m⟩) hN ko (nums_of (rest:=[]) (zs:=[x0,y0,x1,y1]) λz hz=>?_) rfl ?_ (Nat.le_refl _) hw (by simp)).post ?_
  ·simp only [List.mem_cons,List.not_mem_nil,or_false] at hz
   rcases hz with rfl|rfl|rfl|rfl<;>first|exact ko.x0|exact ko.y0|exact ko.x1|exact ko.y1
  ·exact Nat.le_of_ble_eq_true rfl
  ·rintro v hs ⟨rfl,rfl⟩
   exact ⟨_,⟨rfl,qNil,_,[emp],rfl,rfl,rfl,emp,rfl,opH_nil⟩,λh s=>emp_add s⟩
 ·refine (sTakeRN (R:=R') (lb:=lb) (b0:=B) (off:=0) (k0:=1) (ws:=verbT 10::opW _) (o:=⟨10,x0,y0,x1,y1,ax,ay,bx,b_y,n,m⟩) hN ko (nums_of (rest:=[]) (zs:=[x0,y0,x1,y1,n]) λz hz=>?_) rfl ?_ (Nat.le_refl _) hw (by simp)).post ?_
  ·simp only [List.mem_cons,List.not_mem_nil,or_false] at hz
   rcases hz with rfl|rfl|rfl|rfl|rfl<;>first|exact ko.x0|exact ko.y0|exact ko.x1|exact ko.y1|exact ko.n
  ·exact Nat.le_of_ble_eq_true rfl
  ·rintro v hs ⟨rfl,rfl⟩
   exact ⟨_,⟨rfl,qNil,_,[emp],rfl,rfl,rfl,emp,rfl,opH_nil⟩,λh s=>emp_add s⟩
 ·refine (sTakeRN (R:=R') (lb:=lb) (b0:=B) (off:=0) (k0:=1) (ws:=verbT 11::opW _) (o:=⟨11,x0,y0,x1,y1,ax,ay,bx,b_y,n,m⟩) hN ko (nums_of (rest:=[]) (zs:=[x0,y0,x1,y1,n]) λz hz=>?_) rfl ?_ (Nat.le_refl _) hw (by simp)).post ?_
  ·simp only [List.mem_cons,List.not_mem_nil,or_false] at hz
   rcases hz with rfl|rfl|rfl|rfl|rfl<;>first|exact ko.x0|exact ko.y0|exact ko.x1|exact ko.y1|exact ko.n
  ·exact Nat.le_of_ble_eq_true rfl
  ·rintro v hs ⟨rfl,rfl⟩
   exact ⟨_,⟨rfl,qNil,_,[emp],rfl,rfl,rfl,emp,rfl,opH_nil⟩,λh s=>emp_add s⟩
 ·refine (sTakeSight (R:=R') (lb:=lb) (b0:=B) (off:=0) (k0:=1) (ws:=verbT 12::opW _) (o:=⟨12,x0,y0,x1,y1,ax,ay,bx,b_y,n,m⟩) hN ko (nums_of (rest:=[]) (zs:=[ax,ay,n,bx,b_y,m]) λz hz=>?_) rfl ?_ (Nat.le_refl _) hw rfl).post ?_
  ·simp only [List.mem_cons,List.not_mem_nil,or_false] at hz
   rcases hz with rfl|rfl|rfl|rfl|rfl|rfl<;>first|exact ko.ax|exact ko.ay|exact ko.n|exact ko.bx|exact ko.b_y|exact ko.m
  ·exact Nat.le_of_ble_eq_true rfl
  ·rintro v hs ⟨rfl,rfl⟩
   exact ⟨_,⟨rfl,qNil,_,[emp],rfl,rfl,rfl,emp,rfl,opH_nil⟩,λh s=>emp_add s⟩
 ·refine (sTakeView (R:=R') (lb:=lb) (b0:=B) (off:=0) (k0:=1) (ws:=verbT 13::opW _) (o:=⟨13,x0,y0,x1,y1,ax,ay,bx,b_y,n,m⟩) hN ko (nums_of (rest:=[]) (zs:=[ax,ay,n,m,bx]) λz hz=>?_) rfl ?_ (Nat.le_refl _) hw rfl).post ?_
  ·simp only [List.mem_cons,List.not_mem_nil,or_false] at hz
   rcases hz with rfl|rfl|rfl|rfl|rfl<;>first|exact ko.ax|exact ko.ay|exact ko.n|exact ko.m|exact ko.bx
  ·exact Nat.le_of_ble_eq_true rfl
  ·rintro v hs ⟨rfl,rfl⟩
   exact ⟨_,⟨rfl,qNil,_,[emp],rfl,rfl,rfl,emp,rfl,opH_nil⟩,λh s=>emp_add s⟩
 ·refine (sTakeN (R:=R') (lb:=lb) (b0:=B) (off:=0) (k0:=1) (ws:=verbT 14::opW _) (o:=⟨14,x0,y0,x1,y1,ax,ay,bx,b_y,n,m⟩) hN ko (nums_of (rest:=[]) (zs:=[n]) λz hz=>?_) rfl ?_ (Nat.le_refl _) hw (by simp)).post ?_
  ·simp only [List.mem_cons,List.not_mem_nil,or_false] at hz
   rcases hz with rfl<;>first|exact ko.n
  ·exact Nat.le_of_ble_eq_true rfl
  ·rintro v hs ⟨rfl,rfl⟩
   exact ⟨_,⟨rfl,qNil,_,[emp],rfl,rfl,rfl,emp,rfl,opH_nil⟩,λh s=>emp_add s⟩
 ·refine (sTakeA (R:=R') (lb:=lb) (b0:=B) (off:=0) (k0:=1) (ws:=verbT 15::opW _) (o:=⟨15,x0,y0,x1,y1,ax,ay,bx,b_y,n,m⟩) hN ko (nums_of (rest:=[]) (zs:=[ax,ay]) λz hz=>?_) rfl ?_ (Nat.le_refl _) hw (by simp)).post ?_
  ·simp only [List.mem_cons,List.not_mem_nil,or_false] at hz
   rcases hz with rfl|rfl<;>first|exact ko.ax|exact ko.ay
  ·exact Nat.le_of_ble_eq_true rfl
  ·rintro v hs ⟨rfl,rfl⟩
   exact ⟨_,⟨rfl,qNil,_,[emp],rfl,rfl,rfl,emp,rfl,opH_nil⟩,λh s=>emp_add s⟩
 ·refine (sTakeAB (R:=R') (lb:=lb) (b0:=B) (off:=0) (k0:=1) (ws:=verbT 16::opW _) (o:=⟨16,x0,y0,x1,y1,ax,ay,bx,b_y,n,m⟩) hN ko (nums_of (rest:=[]) (zs:=[ax,ay,bx,b_y]) λz hz=>?_) rfl ?_ (Nat.le_refl _) hw rfl).post ?_
  ·simp only [List.mem_cons,List.not_mem_nil,or_false] at hz
   rcases hz with rfl|rfl|rfl|rfl<;>first|exact ko.ax|exact ko.ay|exact ko.bx|exact ko.b_y
  ·exact Nat.le_of_ble_eq_true rfl
  ·rintro v hs ⟨rfl,rfl⟩
   exact ⟨_,⟨rfl,qNil,_,[emp],rfl,rfl,rfl,emp,rfl,opH_nil⟩,λh s=>emp_add s⟩
 ·refine (sTakeNM (R:=R') (lb:=lb) (b0:=B) (off:=0) (k0:=1) (ws:=verbT 17::opW _) (o:=⟨17,x0,y0,x1,y1,ax,ay,bx,b_y,n,m⟩) hN ko (nums_of (rest:=[]) (zs:=[n,m]) λz hz=>?_) rfl ?_ (Nat.le_refl _) hw (by simp)).post ?_
  ·simp only [List.mem_cons,List.not_mem_nil,or_false] at hz
   rcases hz with rfl|rfl<;>first|exact ko.n|exact ko.m
  ·exact Nat.le_of_ble_eq_true rfl
  ·rintro v hs ⟨rfl,rfl⟩
   exact ⟨_,⟨rfl,qNil,_,[emp],rfl,rfl,rfl,emp,rfl,opH_nil⟩,λh s=>emp_add s⟩
 ·refine (sTakeNone (R:=R') (lb:=lb) (b0:=B) (off:=0) (k0:=1) (ws:=verbT 18::opW _) (o:=⟨18,x0,y0,x1,y1,ax,ay,bx,b_y,n,m⟩) hN ko (nums_of (rest:=[]) (zs:=[]) λz hz=>?_) rfl ?_ (Nat.le_refl _) hw (by simp)).post ?_
  ·simp only [List.mem_cons,List.not_mem_nil,or_false] at hz
  ·exact Nat.le_of_ble_eq_true rfl
  ·rintro v hs ⟨rfl,rfl⟩
   exact ⟨_,⟨rfl,qNil,_,[emp],rfl,rfl,rfl,emp,rfl,opH_nil⟩,λh s=>emp_add s⟩
 ·refine (sTakeNone (R:=R') (lb:=lb) (b0:=B) (off:=0) (k0:=1) (ws:=verbT 19::opW _) (o:=⟨19,x0,y0,x1,y1,ax,ay,bx,b_y,n,m⟩) hN ko (nums_of (rest:=[]) (zs:=[]) λz hz=>?_) rfl ?_ (Nat.le_refl _) hw (by simp)).post ?_
  ·simp only [List.mem_cons,List.not_mem_nil,or_false] at hz
  ·exact Nat.le_of_ble_eq_true rfl
  ·rintro v hs ⟨rfl,rfl⟩
   exact ⟨_,⟨rfl,qNil,_,[emp],rfl,rfl,rfl,emp,rfl,opH_nil⟩,λh s=>emp_add s⟩
 ·refine (sTakeR (R:=R') (lb:=lb) (b0:=B) (off:=0) (k0:=1) (ws:=verbT 20::opW _) (o:=⟨20,x0,y0,x1,y1,ax,ay,bx,b_y,n,m⟩) hN ko (nums_of (rest:=[]) (zs:=[x0,y0,x1,y1]) λz hz=>?_) rfl ?_ (Nat.le_refl _) hw (by simp)).post ?_
  ·simp only [List.mem_cons,List.not_mem_nil,or_false] at hz
   rcases hz with rfl|rfl|rfl|rfl<;>first|exact ko.x0|exact ko.y0|exact ko.x1|exact ko.y1
  ·exact Nat.le_of_ble_eq_true rfl
  ·rintro v hs ⟨rfl,rfl⟩
   exact ⟨_,⟨rfl,qNil,_,[emp],rfl,rfl,rfl,emp,rfl,opH_nil⟩,λh s=>emp_add s⟩
 ·refine (sTakeR (R:=R') (lb:=lb) (b0:=B) (off:=0) (k0:=1) (ws:=verbT 21::opW _) (o:=⟨21,x0,y0,x1,y1,ax,ay,bx,b_y,n,m⟩) hN ko (nums_of (rest:=[]) (zs:=[x0,y0,x1,y1]) λz hz=>?_) rfl ?_ (Nat.le_refl _) hw (by simp)).post ?_
  ·simp only [List.mem_cons,List.not_mem_nil,or_false] at hz
   rcases hz with rfl|rfl|rfl|rfl<;>first|exact ko.x0|exact ko.y0|exact ko.x1|exact ko.y1
  ·exact Nat.le_of_ble_eq_true rfl
  ·rintro v hs ⟨rfl,rfl⟩
   exact ⟨_,⟨rfl,qNil,_,[emp],rfl,rfl,rfl,emp,rfl,opH_nil⟩,λh s=>emp_add s⟩
 ·refine (sTakeR (R:=R') (lb:=lb) (b0:=B) (off:=0) (k0:=1) (ws:=verbT 22::opW _) (o:=⟨22,x0,y0,x1,y1,ax,ay,bx,b_y,n,m⟩) hN ko (nums_of (rest:=[]) (zs:=[x0,y0,x1,y1]) λz hz=>?_) rfl ?_ (Nat.le_refl _) hw (by simp)).post ?_
  ·simp only [List.mem_cons,List.not_mem_nil,or_false] at hz
   rcases hz with rfl|rfl|rfl|rfl<;>first|exact ko.x0|exact ko.y0|exact ko.x1|exact ko.y1
  ·exact Nat.le_of_ble_eq_true rfl
  ·rintro v hs ⟨rfl,rfl⟩
   exact ⟨_,⟨rfl,qNil,_,[emp],rfl,rfl,rfl,emp,rfl,opH_nil⟩,λh s=>emp_add s⟩
 ·refine (sTakeN (R:=R') (lb:=lb) (b0:=B) (off:=0) (k0:=1) (ws:=verbT 23::opW _) (o:=⟨23,x0,y0,x1,y1,ax,ay,bx,b_y,n,m⟩) hN ko (nums_of (rest:=[]) (zs:=[n]) λz hz=>?_) rfl ?_ (Nat.le_refl _) hw (by simp)).post ?_
  ·simp only [List.mem_cons,List.not_mem_nil,or_false] at hz
   rcases hz with rfl<;>first|exact ko.n
  ·exact Nat.le_of_ble_eq_true rfl
  ·rintro v hs ⟨rfl,rfl⟩
   exact ⟨_,⟨rfl,qNil,_,[emp],rfl,rfl,rfl,emp,rfl,opH_nil⟩,λh s=>emp_add s⟩
 ·refine FnR.seen (sTakeLoad (R:=R') (lb:=lb) (b0:=B) (off:=0) (k0:=1) (ws:=verbT 24::opW _) (o:=⟨24,x0,y0,x1,y1,ax,ay,bx,b_y,n,m⟩) byts rfl (by omega) rfl rfl ?_ (Nat.le_refl _) hw rfl) ?_
  ·exact Nat.le_of_ble_eq_true rfl
  ·rintro v hs ⟨rfl,D,cd,rfl⟩ w sw
   refine ⟨_,⟨rfl,⟨none,0,D,cd,none,0⟩,_,[rowH (.slice D byts.length cd) byts.length 5 1 (byV byts)],rfl,rfl,rfl,_,rfl,λR2 h2=>⟨Sl.nil _ _ _,Sl.row h2,Sl.nil _ _ _,⟨Nat.le_refl _,Nat.zero_le _⟩,?_,⟨Nat.le_refl _,Nat.zero_le _⟩⟩⟩,sw⟩
   exact row_capO (sw.in_ 2 rfl)
 ·refine (sTakeNone (R:=R') (lb:=lb) (b0:=B) (off:=0) (k0:=1) (ws:=verbT 25::opW _) (o:=⟨25,x0,y0,x1,y1,ax,ay,bx,b_y,n,m⟩) hN ko (nums_of (rest:=[]) (zs:=[]) λz hz=>?_) rfl ?_ (Nat.le_refl _) hw (by simp)).post ?_
  ·simp only [List.mem_cons,List.not_mem_nil,or_false] at hz
  ·exact Nat.le_of_ble_eq_true rfl
  ·rintro v hs ⟨rfl,rfl⟩
   exact ⟨_,⟨rfl,qNil,_,[emp],rfl,rfl,rfl,emp,rfl,opH_nil⟩,λh s=>emp_add s⟩
 ·refine (sTakeNone (R:=R') (lb:=lb) (b0:=B) (off:=0) (k0:=1) (ws:=verbT 26::opW _) (o:=⟨26,x0,y0,x1,y1,ax,ay,bx,b_y,n,m⟩) hN ko (nums_of (rest:=[]) (zs:=[]) λz hz=>?_) rfl ?_ (Nat.le_refl _) hw (by simp)).post ?_
  ·simp only [List.mem_cons,List.not_mem_nil,or_false] at hz
  ·exact Nat.le_of_ble_eq_true rfl
  ·rintro v hs ⟨rfl,rfl⟩
   exact ⟨_,⟨rfl,qNil,_,[emp],rfl,rfl,rfl,emp,rfl,opH_nil⟩,λh s=>emp_add s⟩
 ·refine FnR.seen (sTakeDraw (R:=R') (lb:=lb) (b0:=B) (off:=0) (k0:=1) (ws:=verbT 27::opW _) (o:=⟨27,x0,y0,x1,y1,ax,ay,bx,b_y,n,m⟩) hW ko (h3 rfl) (nums_of (rest:=[printT bands]) (zs:=[x0,y0,x1,y1]) λz hz=>?_) rfl rfl ?_ (Nat.le_refl _) hw rfl) ?_
  ·simp only [List.mem_cons,List.not_mem_nil,or_false] at hz
   rcases hz with rfl|rfl|rfl|rfl<;>first|exact ko.x0|exact ko.y0|exact ko.x1|exact ko.y1
  ·exact Nat.le_of_ble_eq_true rfl
  ·rintro v hs ⟨rfl,D,cd,rfl⟩ w sw
   refine ⟨_,⟨rfl,⟨none,0,none,0,D,cd⟩,_,[bRow D bands.length cd bands],rfl,rfl,rfl,_,rfl,λR2 h2=>⟨Sl.nil _ _ _,Sl.nil _ _ _,Sl.row h2,⟨Nat.le_refl _,Nat.zero_le _⟩,⟨Nat.le_refl _,Nat.zero_le _⟩,?_⟩⟩,sw⟩
   exact row_capO (sw.in_ 2 rfl)
end Go.Proofs.YtcoefgkjlgngkaaGreatDoor
