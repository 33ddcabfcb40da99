/-
  Texts of the proofs, one behind the other: TintK, SyEq, TintL, TintG, TintM, ScPc, ScKd, ScKg.
-/
import Derived.Test.YtcoefgkjlgngkaaGreatDoorSPg15
import Derived.Test.YtcoefgkjlgngkaaGreatDoorSPg09
import Derived.Test.YtcoefgkjlgngkaaGreatDoorSPg02
import Derived.DeepKeys
import Derived.Test.YtcoefgkjlgngkaaGreatDoorSPg14
import Derived.Test.YtcoefgkjlgngkaaGreatDoorSPg13
import Derived.Test.YtcoefgkjlgngkaaGreatDoorSPg10
namespace Go.Proofs.YtcoefgkjlgngkaaGreatDoor
open Go.RowKit
open Sy
set_option linter.unusedVariables false
set_option linter.unusedSimpArgs false
set_option maxRecDepth 100000
set_option maxHeartbeats 4000000
theorem printT_le:∀ {l:List Bd},(∀ b∈l,MayI b.f)→(printT l).length≤16 * l.length
 |[],_=>by simp [printT,joinC]
 |b::l,h=>by
  have h1:=bandT_len (h b (by simp))
  have h2:=tails_len l λx hx=>h x (List.mem_cons_of_mem _ hx)
  unfold printT
  simp only [List.map_cons,joinC,List.length_append,List.length_cons]
  omega
theorem printT_ne {l:List Bd} (h:l≠[]):printT l≠[]:=by
 cases l with
 |nil=>exact absurd rfl h
 |cons b l =>
  unfold printT
  simp only [List.map_cons,joinC,bandT]
  simp
theorem printT_snoc {l:List Bd} (h:l≠[]) (b:Bd):printT (l++[b])=printT l++44::bandT b:=by
 cases l with
 |nil=>exact absurd rfl h
 |cons a l=>simp [printT,joinC]
theorem printT_next {l:List Bd} {i:Nat} (hi:i < l.length):printT (l.take (i+1))=(if 0 < i then printT (l.take i)++[44] else printT (l.take i))++(Lib.itoa (bF l i)++([58]++utfN (bS l i).toNat)):=by
 rw [List.take_succ_eq_append_getElem hi,bF_eq hi,bS_eq hi]
 by_cases c:0 < i
 ·rw [if_pos c,printT_snoc (by intro e;have:=congrArg List.length e;rw [List.length_take,List.length_nil] at this;omega)]
  simp [bandT]
 ·have:i=0:=by omega
  subst this
  rw [if_neg c]
  simp [printT,joinC,bandT]
theorem sTPrint {R:HP} (hN:∀ w,Sat R w→NumW w) {A:Option Addr} {n c:Nat} {l:List Bd} (hn:n≤9223372036854775807) (hc:n≤c) (ha:Sl R A n 2 (bcel l)) (hR:RightL l):PureR Tryz.prog R 62 [.slice A n c] (.tuple #[.string (bs (printT l)),.int .i64 0]):=by
 refine PureR.of_sat λw hs=>?_
 obtain ⟨hl,sa⟩:=ha.spot (by omega) hs
 rw [bcel_len] at hl
 have e1:l.length=n:=by omega
 clear hs hl
 have hr:=λR' (h:∀ w,Sat R' w→Sat R w)=>sTRight (c:=c) hn hc (ha.mono h)
 rw [decide_eq_true hR] at hr
 have hn1:1≤n:=by have:=hR.1;omega
 have hn12:n≤12:=by have:=hR.2.1;omega
 rcases sa with sa|⟨b,off,rfl,sa⟩
 ·omega
 have hcel:∀ j,j < n→∀ w,Sat R w→w.cell? ⟨b,off+j * 2,none⟩=some (.int .i64 (bF l j))∧w.cell? ⟨b,off+j * 2+1,none⟩=some (.int .i32 (bS l j)):=λj hj w s=>by
  obtain ⟨f1,f2⟩:=bcel_F (l:=l) (i:=j) (by omega)
  exact ⟨sa w s _ _ f1,by rw [Nat.add_assoc];exact sa w s _ _ f2⟩
 have hlen:∀ i,i≤n→(printT (l.take i)).length≤192:=λi hi=>by
  have:=printT_le (l:=l.take i) λx hx=>(hR.good x (List.mem_of_mem_take hx)).1
  rw [List.length_take] at this
  omega
 refine fn_of_run0 false Tryz.func62 rfl hmix rfl λw0=>?_
 conv=>whnf
 refine ⟨trivial,CallAt.pure (λR' hR'=>hr R' hR') ?_⟩
 conv=>whnf
 refine iff_f rfl ?_
 conv=>whnf
 refine ⟨trivial,LoopAt.begins (α:=Nat × Nat) [10,11] (λa=>[(4,.v (.pointer (some ⟨a.2,0,none⟩))),(12,.v (.int .i64 (a.1:Int)))]) (λa=>[]) (λa=>[bldH a.2 (printT (l.take a.1))]) (λa=>a.1≤n) (λa=>n - a.1) (Begin.expose 0 ?_) ?_⟩
 ·conv=>whnf
  intro tb _
  refine Begin.le ?_ ⟨(0,tb),Nat.zero_le _,rfl⟩
  exact Le.of (Nat.le_of_ble_eq_true rfl) (Nat.zero_le _) ⟨⟨rfl,rfl⟩,⟨rfl,rfl⟩,⟨rfl,rfl⟩,⟨rfl,rfl⟩,trivial⟩ trivial λh s=>sub_same (bld_new s)
 rintro ⟨i,tb⟩ hi
 simp only at hi
 conv=>whnf
 refine ⟨λh3=>?_,λh3=>?_⟩
 ·have g3:i < n:=by simpa using h3
  have hcl:=hcel i g3
  have hnx:=printT_next (l:=l) (i:=i) (by omega)
  have hli:=hlen i hi
  have hgood:=hR.2.2 i (by omega)
  have hf64:=hgood.1
  have hsg:=hgood.2.1
  have hil:=itoa_len hf64
  generalize bF l i=x at *
  generalize bS l i=sx at *
  obtain ⟨cn,rfl⟩:∃ cn:Nat,sx=(cn:Int):=⟨sx.toNat,by have:=hsg.1;omega⟩
  have hcn:SignN cn:=by simpa using hsg.2
  have hul:=utfN_len cn
  simp only [Int.toNat_natCast] at hnx
  have hpr:=λR' (h:∀ w,Sat R' w→Sat R w)=>sPrint (R:=R') (λw s=>hN w (h w s)) x (by unfold MayI at hf64;omega) (by unfold MayI at hf64;omega)
  generalize printT (l.take i)=q at *
  conv=>whnf
  refine ⟨⟨trivial,by simp only;omega⟩,LoadAt.agg [.int .i64 x,.int .i32 (cn:Int)] rfl rfl rfl (λw hw j u hj=>?_) ?_⟩
  ·simp only [Int.toNat_natCast]
   rcases j with _|_|j
   ·simp at hj;rw [← hj];exact (hcl w hw.rest).1
   ·simp at hj;rw [← hj];exact (hcl w hw.rest).2
   ·simp at hj
  conv=>whnf
  refine ⟨λh4=>?_,λh4=>?_⟩
  ·have h4:0 < i:=by simpa using h4
   rw [if_pos h4] at hnx
   conv=>whnf
   refine ⟨trivial,CallAt.fn (pre:=[bldH tb q]) _ (λh s=>s) (λR' hR'=>sWriteRune1 44 (by decide) (by omega)) ?_⟩
   rintro r hs ⟨rfl,rfl⟩
   conv=>whnf
   refine ⟨trivial,CallAt.pure (λR' hR'=>hpr R' (λw s=>(hR' w s).rest)) ?_⟩
   conv=>whnf
   refine ⟨trivial,CallAt.fn (pre:=[bldH tb (q++[44])]) _ (λh s=>s) (λR' hR'=>sWriteString (Lib.itoa x) (by first|omega|(simp;omega))) ?_⟩
   rintro r hs ⟨rfl,rfl⟩
   conv=>whnf
   refine ⟨trivial,CallAt.fn (pre:=[bldH tb ((q++[44])++Lib.itoa x)]) _ (λh s=>s) (λR' hR'=>sWriteRune1 58 (by decide) (by simp;omega)) ?_⟩
   rintro r hs ⟨rfl,rfl⟩
   conv=>whnf
   refine ⟨trivial,CallAt.fn (pre:=[bldH tb ((q++[44])++Lib.itoa x++[58])]) _ (λh s=>s) (λR' hR'=>sWriteRune cn hcn (by simp;omega)) ?_⟩
   rintro r hs ⟨rfl,rfl⟩
   conv=>whnf
   refine ⟨⟨trivial,by unfold rng;simp only;omega⟩,.mk (i+1,tb) (by simp only;omega) (by simp only;omega) (Le.of (Nat.le_of_ble_eq_true rfl) (Nat.zero_le _) ⟨⟨rfl,rfl⟩,⟨rfl,rfl⟩,⟨rfl,rfl⟩,⟨rfl,rfl⟩,trivial⟩ trivial λh s=>?_)⟩
   refine sub_same ?_
   show sepL [bldH tb (printT (l.take (i+1)))] R h
   rw [hnx,← List.append_assoc,← List.append_assoc]
   exact s
  ·have h4:¬ 0 < i:=by simpa using h4
   rw [if_neg h4] at hnx
   conv=>whnf
   refine ⟨trivial,CallAt.pure (λR' hR'=>hpr R' (λw s=>(hR' w s).rest)) ?_⟩
   conv=>whnf
   refine ⟨trivial,CallAt.fn (pre:=[bldH tb q]) _ (λh s=>s) (λR' hR'=>sWriteString (Lib.itoa x) (by first|omega|(simp;omega))) ?_⟩
   rintro r hs ⟨rfl,rfl⟩
   conv=>whnf
   refine ⟨trivial,CallAt.fn (pre:=[bldH tb (q++Lib.itoa x)]) _ (λh s=>s) (λR' hR'=>sWriteRune1 58 (by decide) (by simp;omega)) ?_⟩
   rintro r hs ⟨rfl,rfl⟩
   conv=>whnf
   refine ⟨trivial,CallAt.fn (pre:=[bldH tb (q++Lib.itoa x++[58])]) _ (λh s=>s) (λR' hR'=>sWriteRune cn hcn (by simp;omega)) ?_⟩
   rintro r hs ⟨rfl,rfl⟩
   conv=>whnf
   refine ⟨⟨trivial,by unfold rng;simp only;omega⟩,.mk (i+1,tb) (by simp only;omega) (by simp only;omega) (Le.of (Nat.le_of_ble_eq_true rfl) (Nat.zero_le _) ⟨⟨rfl,rfl⟩,⟨rfl,rfl⟩,⟨rfl,rfl⟩,⟨rfl,rfl⟩,trivial⟩ trivial λh s=>?_)⟩
   refine sub_same ?_
   show sepL [bldH tb (printT (l.take (i+1)))] R h
   rw [hnx,← List.append_assoc,← List.append_assoc]
   exact s
 ·have g3:i=n:=by simp at h3;omega
  subst g3
  have e:l.take i=l:=List.take_of_length_le (by omega)
  conv=>whnf
  refine ⟨trivial,CallAt.fn (pre:=[bldH tb (printT (l.take i))]) _ (λh s=>s) (λR' hR'=>sBString (printT_ne (by rw [e];intro c;rw [c] at e1;simp at e1;omega)) (by have:=hlen i (Nat.le_refl _);omega)) ?_⟩
  rintro r hs ⟨rfl,rfl⟩
  rw [e]
  conv=>whnf
  exact ⟨trivial,fin_drop rfl⟩
namespace Sy
set_option linter.unusedVariables false
set_option linter.unusedSimpArgs false
def eqFs (P:Program) (g:TypeId→List Value→List Value→Option Bool) (xs ys:List Value):List Field→Option Bool
 |[]=>some true
 |f :: fs => if f.name = "_" then none else match g f.type ((xs.drop f.offset).take (P.cellsOf f.type)) ((ys.drop f.offset).take (P.cellsOf f.type)) with
  |some r=>match eqFs P g xs ys fs with
   |some r'=>some (r && r')
   |none=>none
  |none=>none
def eqT (P:Program):Nat→TypeId→List Value→List Value→Option Bool
 |0,_,_,_=>none
 |d+1,t,xs,ys=>match P.underlying t with
  |some (.int _)=>match xs,ys with
   |[.int k a],[.int k' b]=>if k=k' then some (a == b) else none
   |_,_=>none
  |some .bool=>match xs,ys with
   |[.bool a],[.bool b]=>some (a == b)
   |_,_=>none
  |some .string=>match xs,ys with
   |[.string a],[.string b]=>some (decide (a=b))
   |_,_=>none
  |some (.struct fs)=>if P.stoodInHeld t=false∧xs.length=P.cellsOf t∧ys.length=P.cellsOf t then eqFs P (eqT P d) xs ys fs.toList else none
  |_=>none
def Pk (P:Program) (t:TypeId) (xs:List Value) (v:Value):Prop:=(∃ fs,P.underlying t=some (.struct fs))∧v=.agg xs.toArray∨(¬ ∃ fs,P.underlying t=some (.struct fs))∧xs=[v]
def eqGood (P:Program) (d:Nat) (t:TypeId):Prop:=∀ (xs ys:List Value) (r:Bool) (x y:Value) (w:World),eqT P d t xs ys=some r→Pk P t xs x→Pk P t ys y→∀ dd,d≤dd→(Op.equalIn dd t x y).run P w=.ok r w
theorem part_struct {P:Program} {t:TypeId} {fs:Array Field} (hu:P.underlying t=some (.struct fs)) (cs:Array Value) (off:Nat) (w:World):(part t cs off).run P w=.ok (.agg ((cs.toList.drop off).take (P.cellsOf t)).toArray) w:=by
 obtain ⟨i,hi⟩:=info_of_underlying hu
 have h2:(sizeOf t).run P w=.ok (P.cellsOf t) w:=run_sizeOf w hi
 have e:cs.extract off (off+P.cellsOf t)=((cs.toList.drop off).take (P.cellsOf t)).toArray:=by
  apply Array.ext'
  rw [Array.toList_extract]
  simp [List.extract]
 simp [part,isAgg,run_underlying hu,h2,e]
theorem part_leaf {P:Program} {t:TypeId} {d:TypeDesc} (hu:P.underlying t=some d) (hd:d.isRow=false) {cs:Array Value} {off n:Nat} {v:Value} (h:(cs.toList.drop off).take n=[v]) (w:World):(part t cs off).run P w=.ok v w:=by
 have hx:cs[off]? = some v:=by
  have h1:((cs.toList.drop off).take n)[0]? = some v:=by rw [h];rfl
  rw [List.getElem?_take] at h1
  split at h1
  ·rw [List.getElem?_drop] at h1
   simpa using h1
  ·cases h1
 have hagg:(isAgg t).run P w=.ok false w:=by
  unfold isAgg
  rw [Sem.run_bind,run_underlying hu w]
  cases d<;>simp_all [TypeDesc.isRow]
 unfold part
 rw [Sem.run_bind,hagg]
 simp [hx]
theorem part_pk {P:Program} {d:Nat} {t:TypeId} {xs ys:Array Value} {off:Nat} {r:Bool} (h:eqT P d t ((xs.toList.drop off).take (P.cellsOf t)) ((ys.toList.drop off).take (P.cellsOf t))=some r) (w:World) :
  ∃ a b,(part t xs off).run P w=.ok a w∧(part t ys off).run P w=.ok b w∧Pk P t ((xs.toList.drop off).take (P.cellsOf t)) a∧Pk P t ((ys.toList.drop off).take (P.cellsOf t)) b:=by
 cases d with
 |zero=>cases h
 |succ d =>
  unfold eqT at h
  split at h
  ·rename_i k hu
   split at h
   ·rename_i e1 e2
    exact ⟨_,_,part_leaf hu rfl e1 w,part_leaf hu rfl e2 w,.inr ⟨(by rintro ⟨fs,e⟩;rw [hu] at e;cases e),e1⟩,.inr ⟨(by rintro ⟨fs,e⟩;rw [hu] at e;cases e),e2⟩⟩
   ·cases h
  ·rename_i hu
   split at h
   ·rename_i e1 e2
    exact ⟨_,_,part_leaf hu rfl e1 w,part_leaf hu rfl e2 w,.inr ⟨(by rintro ⟨fs,e⟩;rw [hu] at e;cases e),e1⟩,.inr ⟨(by rintro ⟨fs,e⟩;rw [hu] at e;cases e),e2⟩⟩
   ·cases h
  ·rename_i hu
   split at h
   ·rename_i e1 e2
    exact ⟨_,_,part_leaf hu rfl e1 w,part_leaf hu rfl e2 w,.inr ⟨(by rintro ⟨fs,e⟩;rw [hu] at e;cases e),e1⟩,.inr ⟨(by rintro ⟨fs,e⟩;rw [hu] at e;cases e),e2⟩⟩
   ·cases h
  ·rename_i fs hu
   exact ⟨_,_,part_struct hu _ _ w,part_struct hu _ _ w,.inl ⟨⟨fs,hu⟩,rfl⟩,.inl ⟨⟨fs,hu⟩,rfl⟩⟩
  ·cases h
theorem eqFs_sound {P:Program} {d dd:Nat} (IH:∀ t,eqGood P d t) (hd:d≤dd) {xs ys:Array Value} {w:World}:∀ {fs:List Field} {r:Bool},eqFs P (eqT P d) xs.toList ys.toList fs=some r→(Op.eqFields dd xs ys fs).run P w=.ok r w
 |[],r,h=>by
  simp only [eqFs,Option.some.injEq] at h
  subst h
  simp [Op.eqFields]
 |f::fs,r,h=>by
  unfold eqFs at h
  split at h
  ·cases h
  ·rename_i hn
   split at h
   ·rename_i r1 h1
    split at h
    ·rename_i r2 h2
     injection h with h
     subst h
     obtain ⟨a,b,p1,p2,k1,k2⟩:=part_pk h1 w
     have e:=IH f.type _ _ _ _ _ w h1 k1 k2 dd hd
     have e2:=eqFs_sound IH hd (w:=w) h2
     simp only [Op.eqFields,hn,ne_eq,not_false_eq_true,if_true,Sem.run_bind,p1,p2,e,Result.andThen_ok,Sem.run_ite,Sem.run_pure]
     cases r1<;>simp [e2]
    ·cases h
   ·cases h
theorem eqT_good (P:Program):∀ (d:Nat) (t:TypeId),eqGood P d t
 |0,t=>λ_ _ _ _ _ _ h=>by cases h
 |d+1,t=>by
  intro xs ys r x y w h kx ky dd hdd
  obtain ⟨dd,rfl⟩:∃ e,dd=e+1:=⟨dd - 1,by omega⟩
  unfold eqT at h
  have leaf:(¬ ∃ fs,P.underlying t=some (.struct fs))→xs=[x]∧ys=[y]:=λhn=>by
   rcases kx with ⟨e,_⟩|⟨_,e⟩
   ·exact absurd e hn
   ·rcases ky with ⟨e',_⟩|⟨_,e'⟩
    ·exact absurd e' hn
    ·exact ⟨e,e'⟩
  split at h
  ·rename_i k hu
   obtain ⟨rfl,rfl⟩:=leaf (by rintro ⟨fs,e⟩;rw [hu] at e;cases e)
   split at h
   ·rename_i k1 a k2 b e1 e2
    simp only [List.cons.injEq,and_true] at e1 e2
    subst e1 e2
    split at h
    ·rename_i ek
     subst ek
     injection h with h
     subst h
     exact run_equalIn_int w dd t _ k a b hu
    ·cases h
   ·cases h
  ·rename_i hu
   obtain ⟨rfl,rfl⟩:=leaf (by rintro ⟨fs,e⟩;rw [hu] at e;cases e)
   split at h
   ·rename_i a b e1 e2
    simp only [List.cons.injEq,and_true] at e1 e2
    subst e1 e2
    injection h with h
    subst h
    exact run_equalIn_bool w dd t a b hu
   ·cases h
  ·rename_i hu
   obtain ⟨rfl,rfl⟩:=leaf (by rintro ⟨fs,e⟩;rw [hu] at e;cases e)
   split at h
   ·rename_i a b e1 e2
    simp only [List.cons.injEq,and_true] at e1 e2
    subst e1 e2
    injection h with h
    subst h
    rw [← str_beq]
    exact run_equalIn_string w dd t a b hu
   ·cases h
  ·rename_i fs hu
   split at h
   ·rename_i hc
    have hx:x=.agg xs.toArray:=by
     rcases kx with ⟨_,e⟩|⟨e,_⟩
     ·exact e
     ·exact absurd ⟨fs,hu⟩ e
    have hy:y=.agg ys.toArray:=by
     rcases ky with ⟨_,e⟩|⟨e,_⟩
     ·exact e
     ·exact absurd ⟨fs,hu⟩ e
    subst hx hy
    have hf:P.fieldsOf t=fs:=by unfold Program.fieldsOf;rw [hu]
    rw [run_equalIn_struct w dd t _ _ (by rw [hf];exact hu) hc.1,hf]
    exact eqFs_sound (eqT_good P d) (by omega) (by simpa using h)
   ·cases h
  ·cases h
theorem eq_agg {P:Program} {t:TypeId} (d:Nat) {xs ys:Array Value} {r:Bool} (hs:(P.underlying t).map (λu=>match u with|.struct _=>true|_=>false)=some true) (hd:d≤10000) (h:eqT P d t xs.toList ys.toList=some r) (w:World):(Op.equalIn 10000 t (.agg xs) (.agg ys)).run P w=.ok r w:=by
 obtain ⟨fs,hu⟩:∃ fs,P.underlying t=some (.struct fs):=by
  cases hu:P.underlying t with
  |none=>rw [hu] at hs;cases hs
  |some u=>cases u<;>rw [hu] at hs<;>first|exact ⟨_,rfl⟩|(simp at hs)
 exact eqT_good P d t _ _ _ _ _ w h (.inl ⟨⟨fs,hu⟩,rfl⟩) (.inl ⟨⟨fs,hu⟩,rfl⟩) 10000 hd
end Sy
theorem tdivN (x k:Nat):Int.tdiv (x:Int) (k:Int)=((x / k:Nat):Int):=by rw [Int.tdiv_eq_ediv_of_nonneg (by omega)];rfl
theorem tmodN (x k:Nat):Int.tmod (x:Int) (k:Int)=((x % k:Nat):Int):=by rw [Int.tmod_eq_emod_of_nonneg (by omega)];rfl
theorem i32_inN {x:Int} (h:-2147483648≤x∧x≤2147483647):IntKind.i32.wrap x=x:=by simp [IntKind.wrap,IntKind.bits,IntKind.signed];omega
theorem sBytes {R:HP} {x:Nat} (hx:SignN x):FnR Tryz.prog R 54 [.int .i32 (x:Int)] [] λr hs=>∃ g,r=.slice (some ⟨g,0,none⟩) (utfN x).length (utfN x).length∧hs=[rowH (.slice (some ⟨g,0,none⟩) (utfN x).length (utfN x).length) (utfN x).length 5 1 (byV (utfN x))]:=by
 unfold SignN at hx
 by_cases h1:x < 128
 ·have e:utfN x=[u8 x]:=by unfold utfN;rw [if_pos h1]
  have e2:byV [u8 x]=[.int .u8 (x:Int)]:=by simp only [byV,List.map_cons,List.map_nil,u8_nat (show x < 256 by omega)]
  rw [e,e2]
  refine fn_of_run0 true Tryz.func54 rfl hmix rfl λw0=>?_
  conv=>whnf
  refine iff_t (decide_eq_true (by omega)) ?_
  conv=>whnf
  refine ⟨trivial,OpAt.lit [.int .u8 (x:Int)] 1 rfl rfl rfl rfl rfl (by decide) rfl rfl ?_ (by simp [Value.cells]) rfl (by decide) λg=>?_⟩
  ·simp only [List.map,evR,getT]
   rw [u8_wrapN,Nat.mod_eq_of_lt (by omega)]
  conv=>whnf
  exact ⟨trivial,.mk _ (λw s=>s) ⟨_,rfl,rfl⟩⟩
 ·by_cases h2:x < 2048
  ·have hl:(utfN x).length=2:=by unfold utfN;rw [if_neg (by omega),if_pos h2];rfl
   rw [hl,utf2 (by omega) h2]
   refine fn_of_run0 true Tryz.func54 rfl hmix rfl λw0=>?_
   conv=>whnf
   refine iff_f (decide_eq_false (by omega)) ?_
   conv=>whnf
   refine iff_t (decide_eq_true (by omega)) ?_
   conv=>whnf
   have q1:Int.tdiv (x:Int) 64=((x / 64:Nat):Int):=tdivN x 64
   have q2:Int.tmod (x:Int) 64=((x % 64:Nat):Int):=tmodN x 64
   refine ⟨?_,OpAt.lit [.int .u8 ((192+x / 64:Nat):Int),.int .u8 ((128+x % 64:Nat):Int)] 1 rfl rfl rfl rfl rfl (by decide) rfl rfl ?_ (by simp [Value.cells]) rfl (by decide) λg=>?_⟩
   ·rw [q1,q2]
    exact ⟨⟨⟨⟨trivial,by decide,i32_inN (by omega)⟩,by unfold rng;omega⟩,by decide⟩,by unfold rng;omega⟩
   ·simp only [List.map,evR,getT]
    rw [q1,q2,show (192:Int)+((x / 64:Nat):Int)=((192+x / 64:Nat):Int) by omega,show (128:Int)+((x % 64:Nat):Int)=((128+x % 64:Nat):Int) by omega,u8_wrapN,u8_wrapN,Nat.mod_eq_of_lt (show 192+x / 64 < 256 by omega),Nat.mod_eq_of_lt (show 128+x % 64 < 256 by omega)]
   conv=>whnf
   exact ⟨trivial,.mk _ (λw s=>s) ⟨_,rfl,rfl⟩⟩
  ·have hl:(utfN x).length=3:=by unfold utfN;rw [if_neg (by omega),if_neg h2];rfl
   rw [hl,utf3 (by omega) (by omega)]
   refine fn_of_run0 true Tryz.func54 rfl hmix rfl λw0=>?_
   conv=>whnf
   refine iff_f (decide_eq_false (by omega)) ?_
   conv=>whnf
   refine iff_f (decide_eq_false (by omega)) ?_
   conv=>whnf
   have q1:Int.tdiv (x:Int) 4096=((x / 4096:Nat):Int):=tdivN x 4096
   have q2:Int.tdiv (x:Int) 64=((x / 64:Nat):Int):=tdivN x 64
   have q3:Int.tmod ((x / 64:Nat):Int) 64=((x / 64 % 64:Nat):Int):=tmodN (x / 64) 64
   have q4:Int.tmod (x:Int) 64=((x % 64:Nat):Int):=tmodN x 64
   refine ⟨?_,OpAt.lit [.int .u8 ((224+x / 4096:Nat):Int),.int .u8 ((128+x / 64 % 64:Nat):Int),.int .u8 ((128+x % 64:Nat):Int)] 1 rfl rfl rfl rfl rfl (by decide) rfl rfl ?_ (by simp [Value.cells]) rfl (by decide) λg=>?_⟩
   ·rw [q1,q2,q3,q4]
    repeat' apply And.intro
    all_goals first|exact True.intro|omega|decide|exact i32_inN (by omega)
   ·simp only [List.map,evR,getT]
    rw [q1,q2,q3,q4,show (224:Int)+((x / 4096:Nat):Int)=((224+x / 4096:Nat):Int) by omega,show (128:Int)+((x / 64 % 64:Nat):Int)=((128+x / 64 % 64:Nat):Int) by omega,show (128:Int)+((x % 64:Nat):Int)=((128+x % 64:Nat):Int) by omega,u8_wrapN,u8_wrapN,u8_wrapN,Nat.mod_eq_of_lt (show 224+x / 4096 < 256 by omega),Nat.mod_eq_of_lt (show 128+x / 64 % 64 < 256 by omega),Nat.mod_eq_of_lt (show 128+x % 64 < 256 by omega)]
   conv=>whnf
   exact ⟨trivial,.mk _ (λw s=>s) ⟨_,rfl,rfl⟩⟩
theorem sRPrint33 {R:HP} {A:Option Addr} {n c:Nat} {l:List Bd} (hn:n≤12) (ha:Sl R A n 2 (bcel l)) (hg:∀ b∈l,MayI b.f∧SignI b.s):PureR Tryz.prog R 39 [.slice A n c] (.string (bs (printT l))):=by
 refine PureR.of_sat λw hs=>?_
 obtain ⟨hl,sa⟩:=ha.spot (by omega) hs
 rw [bcel_len] at hl
 have e1:l.length=n:=by omega
 clear hs hl
 have hlen:∀ i,i≤n→(printT (l.take i)).length≤192:=λi hi=>by
  have:=printT_le (l:=l.take i) λx hx=>(hg x (List.mem_of_mem_take hx)).1
  rw [List.length_take] at this
  omega
 refine fn_of_run0 false Tryz.func39 rfl hmix rfl λw0=>?_
 conv=>whnf
 refine ⟨trivial,LoopAt.of (α:=Nat) [0] (λi=>[(3,.v (.string (bs (printT (l.take i))))),(4,.v (.int .i64 (i:Int)))]) (λ_=>[]) (λ_=>[]) (λi=>i≤n) (λi=>n - i) 0 (Nat.zero_le _)
  (Le.of (Nat.le_of_ble_eq_true rfl) (Nat.zero_le _) ⟨⟨rfl,rfl⟩,⟨rfl,rfl⟩,⟨rfl,rfl⟩,trivial⟩ trivial λh s=>sub_same s) ?_⟩
 intro i hi
 conv=>whnf
 refine ⟨λh3=>?_,λh3=>?_⟩
 ·have g3:i < n:=by simpa using h3
  rcases sa with sa|⟨b,off,rfl,sa⟩
  ·omega
  have hcl:∀ w,Sat R w→w.cell? ⟨b,off+i * 2,none⟩=some (.int .i64 (bF l i))∧w.cell? ⟨b,off+i * 2+1,none⟩=some (.int .i32 (bS l i)):=λw s=>by
   obtain ⟨f1,f2⟩:=bcel_F (l:=l) (i:=i) (by omega)
   exact ⟨sa w s _ _ f1,by rw [Nat.add_assoc];exact sa w s _ _ f2⟩
  have hnx:=printT_next (l:=l) (i:=i) (by omega)
  have hli:=hlen i hi
  have hgood:=hg _ (List.getElem_mem (show i < l.length by omega))
  rw [← bF_eq (by omega),← bS_eq (by omega)] at hgood
  have hf64:=hgood.1
  have hsg:=hgood.2
  generalize bF l i=x at *
  generalize bS l i=sx at *
  obtain ⟨cn,rfl⟩:∃ cn:Nat,sx=(cn:Int):=⟨sx.toNat,by have:=hsg.1;omega⟩
  have hcn:SignN cn:=by simpa using hsg.2
  simp only [Int.toNat_natCast] at hnx
  have hpr:=λR'=>sRefPrint (R:=R') x (by unfold MayI at hf64;omega) (by unfold MayI at hf64;omega)
  have hil:=itoa_len hf64
  have hul:=utfN_len cn
  generalize printT (l.take i)=q at *
  conv=>whnf
  refine ⟨λh4=>?_,λh4=>?_⟩
  ·have h4:0 < i:=by simpa using h4
   rw [if_pos h4] at hnx
   conv=>whnf
   rw [show bs q++(⟨#[44]⟩:ByteArray)=bs (q++[44]) from bs_append q [44]]
   refine ⟨⟨trivial,by rw [bs_size];show _+1≤_;omega⟩,RegAt.groups [([.T 0,.T 1,.T 2,.T 3,.T 4,.T 5,.T 9,.T 10,.T 11,.T 12,.T 13,.H 6,.T 7,.T 8,.H 14,.H 15],16),([.T 16],17),([.T 17],18)] hmix (by kernel_rfl) ?_⟩
   conv=>whnf
   refine ⟨⟨trivial,by omega⟩,LoadAt.cell (.int .i64 x) rfl rfl (λw hw=>?_) ?_⟩
   ·rw [Int.toNat_natCast];exact (hcl w hw).1
   conv=>whnf
   refine ⟨⟨trivial,by omega⟩,LoadAt.cell (.int .i32 (cn:Int)) rfl rfl (λw hw=>?_) ?_⟩
   ·rw [Int.toNat_natCast];exact (hcl w hw).2
   conv=>whnf
   refine ⟨trivial,CallAt.pure (λR' hR'=>hpr R') ?_⟩
   conv=>whnf
   refine ⟨trivial,⟨⟨rfl,rfl⟩,λh s=>sub_same s⟩,?_⟩
   conv=>whnf
   rw [show (⟨#[58]⟩:ByteArray)=bs [58] from rfl,bs_append,bs_append]
   refine ⟨⟨⟨trivial,by simp only [bs_size,List.length_append,List.length_cons,List.length_nil];omega⟩,by simp only [bs_size,List.length_append,List.length_cons,List.length_nil];omega⟩,CallAt.fn (pre:=[]) _ (λh s=>s) (λR' _=>sBytes hcn) ?_⟩
   rintro r hs ⟨g,rfl,rfl⟩
   conv=>whnf
   refine ⟨trivial,⟨⟨rfl,rfl⟩,λh s=>sub_tail s⟩,?_⟩
   conv=>whnf
   refine ⟨trivial,OpAt.bytesStr g (utfN cn).length (utfN cn).length (utfN cn) [] rfl (λh s=>s) rfl rfl rfl rfl rfl ?_⟩
   conv=>whnf
   refine ⟨trivial,⟨⟨rfl,rfl⟩,λh s=>sub_tail s⟩,?_⟩
   conv=>whnf
   rw [bs_append,show (q++[44])++Lib.itoa x++[58]++utfN cn=printT (l.take (i+1)) by rw [hnx];simp]
   refine ⟨?_,?_⟩
   ·refine ⟨trivial,?_⟩
    simp only [bs_size,List.length_append,List.length_cons,List.length_nil]
    omega
   conv=>whnf
   refine ⟨⟨trivial,by unfold rng;omega⟩,.mk (i+1) (by omega) (by omega) (Le.of (Nat.le_of_ble_eq_true rfl) (Nat.zero_le _) ⟨⟨rfl,rfl⟩,⟨rfl,rfl⟩,⟨rfl,rfl⟩,trivial⟩ trivial λh s=>sub_nil s)⟩
  ·have h4:¬ 0 < i:=by simpa using h4
   rw [if_neg h4] at hnx
   refine ⟨trivial,RegAt.groups [([.T 0,.T 1,.T 2,.T 3,.T 4,.T 5,.T 9,.T 10,.T 11,.T 12,.T 13,.H 6,.T 7,.T 8,.H 14,.H 15],16),([.T 16],17),([.T 17],18)] hmix (by kernel_rfl) ?_⟩
   conv=>whnf
   refine ⟨⟨trivial,by omega⟩,LoadAt.cell (.int .i64 x) rfl rfl (λw hw=>?_) ?_⟩
   ·rw [Int.toNat_natCast];exact (hcl w hw).1
   conv=>whnf
   refine ⟨⟨trivial,by omega⟩,LoadAt.cell (.int .i32 (cn:Int)) rfl rfl (λw hw=>?_) ?_⟩
   ·rw [Int.toNat_natCast];exact (hcl w hw).2
   conv=>whnf
   refine ⟨trivial,CallAt.pure (λR' hR'=>hpr R') ?_⟩
   conv=>whnf
   refine ⟨trivial,⟨⟨rfl,rfl⟩,λh s=>sub_same s⟩,?_⟩
   conv=>whnf
   rw [show (⟨#[58]⟩:ByteArray)=bs [58] from rfl,bs_append,bs_append]
   refine ⟨⟨⟨trivial,by simp only [bs_size,List.length_append,List.length_cons,List.length_nil];omega⟩,by simp only [bs_size,List.length_append,List.length_cons,List.length_nil];omega⟩,CallAt.fn (pre:=[]) _ (λh s=>s) (λR' _=>sBytes hcn) ?_⟩
   rintro r hs ⟨g,rfl,rfl⟩
   conv=>whnf
   refine ⟨trivial,⟨⟨rfl,rfl⟩,λh s=>sub_tail s⟩,?_⟩
   conv=>whnf
   refine ⟨trivial,OpAt.bytesStr g (utfN cn).length (utfN cn).length (utfN cn) [] rfl (λh s=>s) rfl rfl rfl rfl rfl ?_⟩
   conv=>whnf
   refine ⟨trivial,⟨⟨rfl,rfl⟩,λh s=>sub_tail s⟩,?_⟩
   conv=>whnf
   rw [bs_append,show q++Lib.itoa x++[58]++utfN cn=printT (l.take (i+1)) by rw [hnx];simp]
   refine ⟨?_,?_⟩
   ·refine ⟨trivial,?_⟩
    simp only [bs_size,List.length_append,List.length_cons,List.length_nil]
    omega
   conv=>whnf
   refine ⟨⟨trivial,by unfold rng;omega⟩,.mk (i+1) (by omega) (by omega) (Le.of (Nat.le_of_ble_eq_true rfl) (Nat.zero_le _) ⟨⟨rfl,rfl⟩,⟨rfl,rfl⟩,⟨rfl,rfl⟩,trivial⟩ trivial λh s=>sub_nil s)⟩
 ·have g3:i=n:=by simp at h3;omega
  subst g3
  have e:l.take i=l:=List.take_of_length_le (by omega)
  rw [e]
  conv=>whnf
  exact ⟨trivial,fin_pure rfl rfl⟩
theorem bd_eq (f s:Int) (w:World):(Op.equalIn 10000 84 (.agg #[.int .i64 f,.int .i32 s]) (.agg #[.int .i64 f,.int .i32 s])).run Tryz.prog w=.ok true w :=
 (eq_agg 4 (by rfl) (by decide) (r:=((f == f) && ((s == s) && true))) (by kernel_rfl) w).trans (by simp)
theorem sSame33 {R:HP} {A B:Option Addr} {n c d:Nat} {l:List Bd} (hn:n≤4611686018427387904) (ha:Sl R A n 2 (bcel l)) (hb:Sl R B n 2 (bcel l)):PureR Tryz.prog R 21 [.slice A n c,.slice B n d] (.bool true):=by
 refine PureR.of_sat λw hs=>?_
 obtain ⟨hl,sa⟩:=ha.spot (by omega) hs
 obtain ⟨hl',sb⟩:=hb.spot (by omega) hs
 rw [bcel_len] at hl hl'
 have e1:l.length=n:=by omega
 clear hs hl hl'
 refine fn_of_run0 false Tryz.func21 rfl hmix rfl λw0=>?_
 conv=>whnf
 refine ⟨λh=>absurd h (by simp),λ_=>?_⟩
 conv=>whnf
 refine ⟨trivial,LoopAt.keep (α:=Nat) [0,1] (λi=>[(5,.v (.int .i64 (i:Int)))]) (λi=>i≤n) (λi=>n - i) 0 (Nat.zero_le _) rfl ⟨⟨rfl,rfl⟩,trivial⟩ ⟨⟨rfl,rfl⟩,⟨rfl,rfl⟩,trivial⟩ trivial ?_⟩
 intro i hi
 conv=>whnf
 refine ⟨λh=>?_,λh=>?_⟩
 ·have hi2:i < n:=by simpa using h
  rcases sa with sa|⟨b,off,rfl,sa⟩
  ·omega
  rcases sb with sb|⟨b',off',rfl,sb⟩
  ·omega
  obtain ⟨f1,f2⟩:=bcel_F (l:=l) (i:=i) (by omega)
  generalize bF l i=x at *
  generalize bS l i=y at *
  conv=>whnf
  refine ⟨trivial,RegAt.segs [8] hmix (by kernel_rfl) ?_⟩
  conv=>whnf
  refine ⟨⟨trivial,by omega⟩,LoadAt.agg [.int .i64 x,.int .i32 y] rfl rfl rfl (λw hw j v hj=>?_) ?_⟩
  ·rw [Int.toNat_natCast,Nat.add_assoc]
   rcases j with _|_|j
   ·simp at hj;rw [← hj];exact sa w hw _ _ f1
   ·simp at hj;rw [← hj];exact sa w hw _ _ f2
   ·simp at hj
  conv=>whnf
  refine ⟨⟨trivial,by omega⟩,LoadAt.agg [.int .i64 x,.int .i32 y] rfl rfl rfl (λw hw j v hj=>?_) ?_⟩
  ·rw [Int.toNat_natCast,Nat.add_assoc]
   rcases j with _|_|j
   ·simp at hj;rw [← hj];exact sb w hw _ _ f1
   ·simp at hj;rw [← hj];exact sb w hw _ _ f2
   ·simp at hj
  conv=>whnf
  refine ⟨trivial,OpAt.aggNe rfl rfl rfl rfl (by kernel_rfl) (bd_eq x y) ?_⟩
  conv=>whnf
  refine ⟨trivial,?_⟩
  conv=>whnf
  refine iff_f rfl ?_
  conv=>whnf
  exact ⟨⟨trivial,by unfold rng;omega⟩,Next.keep (i+1) (by omega) (by omega) ⟨⟨rfl,rfl⟩,trivial⟩ ⟨⟨rfl,rfl⟩,⟨rfl,rfl⟩,trivial⟩ trivial rfl rfl rfl⟩
 ·have g3:i=n:=by simp at h;omega
  subst g3
  conv=>whnf
  exact ⟨trivial,fin_pure rfl rfl⟩
theorem sLegend {R:HP} {lb b:Nat} {tb:TypeId} {cs:Array Value} {A:Option Addr} {n c:Nat} {l:List Bd} (hW:∀ w,Sat R w→ReadW w) (ws:List (List UInt8)) (k:Nat) (hw:ws.length≤100000) (hk:cs[k]? = some (.slice A n c)) (hn:n≤9223372036854775807) (hc:n≤c) (ha:Sl R A n 2 (bcel l)) (hR:RightL l) :
  FnR Tryz.prog R 45 [.pointer (some ⟨lb,0,none⟩),.pointer (some ⟨b,k,none⟩)] [lnH lb ws,blkH b tb cs] λr hs=>r=.tuple #[]∧∃ v,hs=[lnH lb (ws++[printT l]),blkH b tb (putC cs k v)]:=by
 have hks:=(Array.getElem?_eq_some_iff.1 hk).1
 have hpr:=λR' (h:∀ w,Sat R' w→Sat R w)=>sTPrint (R:=R') (λw s=>(hW w (h w s)).1) hn hc (ha.mono h) hR
 have hrd:=λR' (h:∀ w,Sat R' w→Sat R w)=>sTRead (R:=R') (λw s=>hW w (h w s)) (readV_iff.2 ⟨hR,rfl⟩)
 generalize printT l=t at *
 refine FnR.unbox λ⟨A1,c1⟩=>?_
 refine fn_of_run0 false Tryz.func45 rfl hmix rfl λw0=>?_
 conv=>whnf
 refine ⟨trivial,LoadAt.cell (.bool false) rfl rfl (λw hw=>blk_cell (hw.in_ 0 rfl) rfl) ?_⟩
 conv=>whnf
 refine iff_t rfl ?_
 conv=>whnf
 refine ⟨trivial,LoadAt.cell (.slice A n c) rfl rfl (λw hw=>blk_cell (hw.in_ 2 rfl) hk) ?_⟩
 conv=>whnf
 refine ⟨trivial,CallAt.pure (λR' hR'=>hpr R' λw s=>Sat.rest (hR' w s)) ?_⟩
 conv=>whnf
 refine iff_f rfl ?_
 conv=>whnf
 refine ⟨trivial,CallAt.fn (pre:=[lnH lb ws]) _ (λh s=>boxH_shut (parts:=lnP lb ws) (A1,c1) s) (λR' hR'=>sWord t (by omega)) ?_⟩
 rintro r hs ⟨rfl,rfl⟩
 conv=>whnf
 refine ⟨trivial,CallAt.fn (pre:=[]) _ (λh s=>s) (λR' hR'=>hrd R' λw s=>Sat.rest (hR' w s)) ?_⟩
 rintro r hs ⟨A2,c2,rfl,rfl⟩
 conv=>whnf
 refine iff_f rfl ?_
 conv=>whnf
 refine ⟨trivial,OpAt.store (A':=blkH b tb (putC cs k (.slice A2 l.length c2))) b k (.slice A2 l.length c2) _ rfl (λh s=>sepL_pull 2 s) rfl rfl rfl rfl rfl (by simp [Value.cells,Value.oneCell']) (λh r=>blk_put (by simp [Value.cells];omega) r) ?_⟩
 conv=>whnf
 refine ⟨trivial,.mk [lnH lb (ws++[t]),blkH b tb (putC cs k (.slice A2 l.length c2))] (λw ⟨h,hs,s⟩=>?_) ⟨rfl,_,rfl⟩⟩
 obtain ⟨h',e,s2⟩:=sub_front (m:=[lnH lb (ws++[t]),blkH b tb (putC cs k (.slice A2 l.length c2))]) (sepL_pull 2 s)
 exact ⟨h',hs.mono e,s2⟩
theorem sLegendT {R:HP} {lb b0 off m0 c0 k0 ob:Nat} {tb:TypeId} {cs:Array Value} {ws:List (List UInt8)} {l:List Bd} (hW:∀ w,Sat R w→ReadW w) (k:Nat) (hk:k < cs.size) (hz:ws[k0]? = some (printT l)) (hR:RightL l) (hn0:ws.length=m0) (hm0:m0≤1000000) (hc0:m0≤c0) (ha0:WordsAt R b0 off ws) :
  FnR Tryz.prog R 45 [.pointer (some ⟨lb,0,none⟩),.pointer (some ⟨ob,k,none⟩)] [tkH lb b0 off m0 c0 k0,blkH ob tb cs] λr hs=>r=.tuple #[]∧∃ A c,hs=[tkH lb b0 off m0 c0 (k0+1),blkH ob tb (putC cs k (.slice A l.length c)),bRow A l.length c l]:=by
 have hrd:=λR' (h:∀ w,Sat R' w→Sat R w)=>sTRead (R:=R') (λw s=>hW w (h w s)) (readV_iff.2 ⟨hR,rfl⟩)
 generalize printT l=t at *
 refine FnR.untk λA1 hA1=>?_
 refine fn_of_run0 false Tryz.func45 rfl hmix rfl λw0=>?_
 conv=>whnf
 refine ⟨trivial,LoadAt.cell (.bool true) rfl rfl (λw hw=>blk_cell (hw.in_ 0 rfl) rfl) ?_⟩
 conv=>whnf
 refine iff_f rfl ?_
 conv=>whnf
 refine ⟨trivial,CallAt.fn (pre:=[tkH lb b0 off m0 c0 k0]) _ (λh s=>tk_shut hA1 s) (λR' hR'=>sWordT _ hz hn0 hm0 hc0 (ha0.mono λw s=>Sat.rest (hR' w s))) ?_⟩
 rintro r hs ⟨rfl,rfl⟩
 conv=>whnf
 refine ⟨trivial,CallAt.fn (pre:=[]) _ (λh s=>s) (λR' hR'=>hrd R' λw s=>Sat.rest (hR' w s)) ?_⟩
 rintro r hs ⟨A2,c2,rfl,rfl⟩
 conv=>whnf
 refine iff_f rfl ?_
 conv=>whnf
 refine ⟨trivial,OpAt.store (A':=blkH ob tb (putC cs k (.slice A2 l.length c2))) ob k (.slice A2 l.length c2) _ rfl (λh s=>sepL_pull 2 s) rfl rfl rfl rfl rfl (by simp [Value.cells,Value.oneCell']) (λh r=>blk_put (by simp [Value.cells];omega) r) ?_⟩
 conv=>whnf
 refine ⟨trivial,.mk [tkH lb b0 off m0 c0 (k0+1),blkH ob tb (putC cs k (.slice A2 l.length c2)),bRow A2 l.length c2 l] (λw ⟨h,hs,s⟩=>⟨h,hs,?_⟩) ⟨rfl,A2,c2,rfl⟩⟩
 have s1:sepL [tkH lb b0 off m0 c0 (k0+1),blkH ob tb (putC cs k (.slice A2 l.length c2)),bRow A2 l.length c2 l] R h:=sepL_pull 2 s
 exact s1
theorem sTakePaste {R:HP} {lb b0 off m0 c0 k0 ob n:Nat} {ws:List (List UInt8)} {o:OpN} (hN:∀ w,Sat R w→NumW w) (hM:∀ w,Sat R w→MaxW w) (ok:o.ok) (l:List Int) (hl:l.length=n) (hn:n≤40000) (hi:∀ x∈l,I64 x) (hz:Nums ws k0 [o.x0,o.y0,o.x1,o.y1]) (hy:ws[k0+4]? = some (listW l)) (hn0:ws.length=m0) (hm0:m0≤1000000) (hc0:m0≤c0) (ha0:WordsAt R b0 off ws) (hk:o.kind=4) :
  FnR Tryz.prog R 23 [.pointer (some ⟨lb,0,none⟩),.pointer (some ⟨ob,0,none⟩)] [tkH lb b0 off m0 c0 k0,blkH ob 31 (opZ o.kind)] λr hs=>r=.tuple #[]∧∃ D cd,hs=[tkH lb b0 off m0 c0 (k0+5),blkH ob 31 (opC ⟨o.kind,o.x0,o.y0,o.x1,o.y1,0,0,0,0,0,0⟩ (.slice D n cd) nilV nilV),rowH (.slice D n cd) n 2 1 (l.flatMap numL)]:=by
 unfold opZ opC
 rw [hk]
 refine fn_of_run0 false Tryz.func23 rfl hmix rfl λw0=>?_
 conv=>whnf
 refine ⟨trivial,LoadAt.cell _ rfl rfl (λw hw=>blk_cell (hw.in_ 1 rfl) rfl) ?_⟩
 conv=>whnf
 repeat (first|(refine ⟨λ_=>?_,λh=>absurd h (by decide)⟩;conv=>whnf)|(refine ⟨λh=>absurd h (by decide),λ_=>?_⟩;conv=>whnf))
 refine ⟨trivial,CallAt.fn (pre:=[tkH lb b0 off m0 c0 (k0),blkH ob 31 _]) _ (λh s=>s) (λR' hR'=>sRectT (λw s=>hN w (Sat.rest (hR' w s))) 1 o.x0 o.y0 o.x1 o.y1 hn0 hm0 hc0 (ha0.mono λw s=>Sat.rest (hR' w s)) (hz.sub 0 [o.x0,o.y0,o.x1,o.y1] rfl) ok.x0 ok.y0 ok.x1 ok.y1 ⟨0,rfl,i0⟩ ⟨0,rfl,i0⟩ ⟨0,rfl,i0⟩ ⟨0,rfl,i0⟩) ?_⟩
 rintro r hs ⟨rfl,rfl⟩
 conv=>whnf
 refine ⟨trivial,CallAt.fn (pre:=[tkH lb b0 off m0 c0 (k0+4),blkH ob 31 _]) _ (λh s=>s) (λR' hR'=>sListT (λw s=>hN w (Sat.rest (hR' w s))) (λw s=>hM w (Sat.rest (hR' w s))) 11 l rfl hl hn hi hy hn0 hm0 hc0 (ha0.mono λw s=>Sat.rest (hR' w s))) ?_⟩
 rintro r hs ⟨rfl,D,cd,rfl⟩
 conv=>whnf
 exact ⟨trivial,.mk _ (λw s=>s) ⟨rfl,D,cd,rfl⟩⟩
theorem sTakeLoad {R:HP} {lb b0 off m0 c0 k0 ob n:Nat} {ws:List (List UInt8)} {o:OpN} (b:List UInt8) (hl:b.length=n) (hn:n≤40000) (hy:ws[k0]? = some (hexW b)) (hn0:ws.length=m0) (hm0:m0≤1000000) (hc0:m0≤c0) (ha0:WordsAt R b0 off ws) (hk:o.kind=24) :
  FnR Tryz.prog R 23 [.pointer (some ⟨lb,0,none⟩),.pointer (some ⟨ob,0,none⟩)] [tkH lb b0 off m0 c0 k0,blkH ob 31 (opZ o.kind)] λr hs=>r=.tuple #[]∧∃ D cd,hs=[tkH lb b0 off m0 c0 (k0+1),blkH ob 31 (opC ⟨o.kind,0,0,0,0,0,0,0,0,0,0⟩ nilV (.slice D n cd) nilV),rowH (.slice D n cd) n 5 1 (byV b)]:=by
 unfold opZ opC
 rw [hk]
 refine fn_of_run0 false Tryz.func23 rfl hmix rfl λw0=>?_
 conv=>whnf
 refine ⟨trivial,LoadAt.cell _ rfl rfl (λw hw=>blk_cell (hw.in_ 1 rfl) rfl) ?_⟩
 conv=>whnf
 repeat (first|(refine ⟨λ_=>?_,λh=>absurd h (by decide)⟩;conv=>whnf)|(refine ⟨λh=>absurd h (by decide),λ_=>?_⟩;conv=>whnf))
 refine ⟨trivial,CallAt.fn (pre:=[tkH lb b0 off m0 c0 k0,blkH ob 31 _]) _ (λh s=>s) (λR' hR'=>sBytesT 12 b rfl hl hn hy hn0 hm0 hc0 (ha0.mono λw s=>Sat.rest (hR' w s))) ?_⟩
 rintro r hs ⟨rfl,D,cd,rfl⟩
 conv=>whnf
 exact ⟨trivial,.mk _ (λw s=>s) ⟨rfl,D,cd,rfl⟩⟩
theorem sTakeDraw {R:HP} {lb b0 off m0 c0 k0 ob:Nat} {ws:List (List UInt8)} {o:OpN} {l:List Bd} (hW:∀ w,Sat R w→ReadW w) (ok:o.ok) (hR:RightL l) (hz:Nums ws k0 [o.x0,o.y0,o.x1,o.y1]) (hy:ws[k0+4]? = some (printT l)) (hn0:ws.length=m0) (hm0:m0≤1000000) (hc0:m0≤c0) (ha0:WordsAt R b0 off ws) (hk:o.kind=27) :
  FnR Tryz.prog R 23 [.pointer (some ⟨lb,0,none⟩),.pointer (some ⟨ob,0,none⟩)] [tkH lb b0 off m0 c0 k0,blkH ob 31 (opZ o.kind)] λr hs=>r=.tuple #[]∧∃ D cd,hs=[tkH lb b0 off m0 c0 (k0+5),blkH ob 31 (opC ⟨o.kind,o.x0,o.y0,o.x1,o.y1,0,0,0,0,0,0⟩ nilV nilV (.slice D l.length cd)),bRow D l.length cd l]:=by
 have hN:∀ w,Sat R w→NumW w:=λw s=>(hW w s).1
 unfold opZ opC
 rw [hk]
 refine fn_of_run0 false Tryz.func23 rfl hmix rfl λw0=>?_
 conv=>whnf
 refine ⟨trivial,LoadAt.cell _ rfl rfl (λw hw=>blk_cell (hw.in_ 1 rfl) rfl) ?_⟩
 conv=>whnf
 repeat (first|(refine ⟨λ_=>?_,λh=>absurd h (by decide)⟩;conv=>whnf)|(refine ⟨λh=>absurd h (by decide),λ_=>?_⟩;conv=>whnf))
 refine ⟨trivial,CallAt.fn (pre:=[tkH lb b0 off m0 c0 (k0),blkH ob 31 _]) _ (λh s=>s) (λR' hR'=>sRectT (λw s=>hN w (Sat.rest (hR' w s))) 1 o.x0 o.y0 o.x1 o.y1 hn0 hm0 hc0 (ha0.mono λw s=>Sat.rest (hR' w s)) (hz.sub 0 [o.x0,o.y0,o.x1,o.y1] rfl) ok.x0 ok.y0 ok.x1 ok.y1 ⟨0,rfl,i0⟩ ⟨0,rfl,i0⟩ ⟨0,rfl,i0⟩ ⟨0,rfl,i0⟩) ?_⟩
 rintro r hs ⟨rfl,rfl⟩
 conv=>whnf
 refine ⟨trivial,CallAt.fn (pre:=[tkH lb b0 off m0 c0 (k0+4),blkH ob 31 _]) _ (λh s=>s) (λR' hR'=>sLegendT (λw s=>hW w (Sat.rest (hR' w s))) 13 (by show 13 < 14;omega) hy hR hn0 hm0 hc0 (ha0.mono λw s=>Sat.rest (hR' w s))) ?_⟩
 rintro r hs ⟨rfl,D,cd,rfl⟩
 conv=>whnf
 exact ⟨trivial,.mk _ (λw s=>s) ⟨rfl,D,cd,rfl⟩⟩
theorem sPartsLoad {R:HP} {lb ob:Nat} {o:OpN} {v1 v3:Value} {A:Option Addr} {n c:Nat} (ws:List (List UInt8)) (hw:ws.length≤1000) (hk:o.kind=24) (b:List UInt8) (hl:b.length=n) (hn:n≤40000) (ha:Sl R A n 1 (byV b)) :
  FnR Tryz.prog R 23 [.pointer (some ⟨lb,0,none⟩),.pointer (some ⟨ob,0,none⟩)] [lnH lb ws,blkH ob 31 (opC o v1 (.slice A n c) v3)] λr hs=>r=.tuple #[]∧∃ cs,hs=[lnH lb (ws++[hexW b]),blkH ob 31 cs]:=by
 unfold opC
 rw [hk]
 refine fn_of_run0 false Tryz.func23 rfl hmix rfl λw0=>?_
 conv=>whnf
 refine ⟨trivial,LoadAt.cell _ rfl rfl (λw hw=>blk_cell (hw.in_ 1 rfl) rfl) ?_⟩
 conv=>whnf
 repeat (first|(refine ⟨λ_=>?_,λh=>absurd h (by decide)⟩;conv=>whnf)|(refine ⟨λh=>absurd h (by decide),λ_=>?_⟩;conv=>whnf))
 refine ⟨trivial,CallAt.fn (pre:=[lnH lb ws,blkH ob 31 _]) _ (λh s=>s) (λR' hR'=>sBytesS ws 12 b (by omega) rfl hl hn (ha.mono λw s=>Sat.rest (hR' w s))) ?_⟩
 rintro r hs ⟨rfl,v,rfl⟩
 conv=>whnf
 exact ⟨trivial,.mk _ (λw s=>s) ⟨rfl,_,rfl⟩⟩
end Go.Proofs.YtcoefgkjlgngkaaGreatDoor
