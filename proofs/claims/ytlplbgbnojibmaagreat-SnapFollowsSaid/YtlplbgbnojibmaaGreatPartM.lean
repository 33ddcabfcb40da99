/-
  Texts of the proofs, one behind the other: SyStr, SyEq, SySl, OpenSl, Rects, FenPlain, FenTab, Fen, FenAdd, FenOf.
-/
import Derived.Test.YtlplbgbnojibmaaGreatPartS
import Derived.Lib.OthersKept
import Derived.Laws.IdiomStrings
import Derived.DeepKeys
import Derived.Test.YtlplbgbnojibmaaGreatPartI
import Derived.ProofKit
import Derived.OpenShut
import Derived.Lib.SmallJoins
import Derived.Deep.Slices
import Derived.Test.YtlplbgbnojibmaaGreatPartL
import Derived.Test.YtlplbgbnojibmaaGreatPartJ
/-
  Symbolic runs: a range over a string, bytes made a string.
-/
namespace Go.Proofs.YtlplbgbnojibmaaGreat
open Go.RowKit
namespace Sy
set_option linter.unusedVariables false
set_option linter.unusedSimpArgs false

/-- a string's iterator -/
def itH (b : Nat) (s : ByteArray) (pos : Nat) : HP := fun h => ∀ i, h i = if i = b then some (.stringIter s pos) else none
theorem OpAt.range {G : Gl} {o : Oper} {st : St} {K : St → Prop} {t : TypeId} {x : Operand} (s : ByteArray) (ho : o.op = .range t x) (hx : evR st x = .string s) (hr : allR st o.op.operands.toList = true) (hu : G.P.underlying t = some .string)
    (k : ∀ b, putK G { st with h := itH b s 0 :: st.h } o.dst (.v (.pointer (some ⟨b, 0, none⟩))) none K) : OpAt G o st K := by
  refine OpAt.sem (pre := []) (post := fun v hs => ∃ b, v = .pointer (some ⟨b, 0, none⟩) ∧ hs = [itH b s 0]) st.h (fun h s => s) (by rw [ho]; rfl) hr ?_ ?_
  · intro R' _ w sat
    refine ⟨_, _, w.alloc (.stringIter s 0), ?_, ⟨w.heap.size, rfl, rfl⟩, ?_, .of_below ((Below.refl _ _).alloc (Nat.le_refl _) _)⟩
    · simp only [execOp, ho, hx, Instr.range, run_underlying hu, newObj, Sem.run_bind, Result.andThen_ok, Sem.run_pure]
      rfl
    · obtain ⟨h2, s2, a⟩ := sat
      have hb : Below w.heap.size w (w.alloc (.stringIter s 0)) := (Below.refl _ _).alloc (Nat.le_refl _) _
      refine ⟨un (fun i => if i = w.heap.size then some (.stringIter s 0) else none) h2, ?_, _, h2, fun i => ?_, rfl, fun i => rfl, a⟩
      · refine Sub.un (fun i o e => ?_) (s2.below hb)
        by_cases c : i = w.heap.size
        · subst c; rw [if_pos rfl] at e; rw [← e]; exact heap_alloc_new w _
        · rw [if_neg c] at e; cases e
      · by_cases c : i = w.heap.size
        · subst c; exact .inr (s2.none (Nat.le_refl _))
        · exact .inl (if_neg c)
  · rintro v hs ⟨b, rfl, rfl⟩
    exact k b
theorem OpAt.next {G : Gl} {o : Oper} {st : St} {K : St → Prop} {x : Operand} (b : Nat) (s : ByteArray) (pos : Nat) (rest : List HP) (ho : o.op = .next x true) (hp : ∀ h, sepL st.h G.R h → sepL (itH b s pos :: rest) G.R h) (hx : evR st x = .pointer (some ⟨b, 0, none⟩)) (hr : allR st o.op.operands.toList = true) (hlt : pos < s.size)
    (k : putK G { st with h := itH b s (pos + (Utf8.decode s pos).2) :: rest } o.dst (.v (.tuple #[.bool true, .int .i64 (pos : Int), .int .i32 ((Utf8.decode s pos).1 : Int)])) none K) : OpAt G o st K := by
  refine OpAt.sem (pre := [itH b s pos]) (post := fun v hs => v = .tuple #[.bool true, .int .i64 (pos : Int), .int .i32 ((Utf8.decode s pos).1 : Int)] ∧ hs = [itH b s (pos + (Utf8.decode s pos).2)]) rest hp (by rw [ho]; rfl) hr ?_ ?_
  · rintro R' _ w ⟨h, hsub, h1, h2, d, rfl, it, a⟩
    have hb : w.heap[b]? = some (.stringIter s pos) := hsub.left b _ (by rw [it]; simp)
    have hb2 : h2 b = none := by
      rcases d b with e | e
      · rw [it] at e; simp at e
      · exact e
    refine ⟨_, _, w.iterAt b s (pos + (Utf8.decode s pos).2), ?_, ⟨rfl, rfl⟩, ?_, ⟨rfl, rfl, rfl, by rw [Lib.iterAt_size]; exact Nat.le_refl _⟩⟩
    · simp only [execOp, ho, hx, Sem.run_bind, Lib.run_next_any_at w b s pos _ hb hlt, Result.andThen_ok, Sem.run_pure]
      try rfl
    · refine ⟨un (fun i => if i = b then some (.stringIter s (pos + (Utf8.decode s pos).2)) else none) h2, ?_, _, h2, fun i => ?_, rfl, fun i => rfl, a⟩
      · refine Sub.un (fun i o e => ?_) fun i o e => ?_
        · by_cases c : i = b
          · subst c; rw [if_pos rfl] at e; rw [← e]; exact Lib.iterAt_heap w _ s pos _ hb
          · rw [if_neg c] at e; cases e
        · have c : i ≠ b := fun c => by subst c; rw [hb2] at e; cases e
          rw [Lib.iterAt_other w b i s _ c]
          exact hsub.right d i o e
      · by_cases c : i = b
        · subst c; exact .inr hb2
        · exact .inl (if_neg c)
  · rintro v hs ⟨rfl, rfl⟩
    exact k
theorem OpAt.nextEnd {G : Gl} {o : Oper} {st : St} {K : St → Prop} {x : Operand} (b : Nat) (s : ByteArray) (pos : Nat) (rest : List HP) (ho : o.op = .next x true) (hp : ∀ h, sepL st.h G.R h → sepL (itH b s pos :: rest) G.R h) (hx : evR st x = .pointer (some ⟨b, 0, none⟩)) (hr : allR st o.op.operands.toList = true) (hlt : ¬ pos < s.size)
    (k : putK G st o.dst (.v (.tuple #[.bool false])) none K) : OpAt G o st K := by
  refine OpAt.val _ (by rw [ho]; rfl) hr (fun w sat => ?_) k
  obtain ⟨h, hsub, sp⟩ := sat
  obtain ⟨h1, h2, d, rfl, it, a⟩ := hp h sp
  have hb : w.heap[b]? = some (.stringIter s pos) := hsub.left b _ (by rw [it]; simp)
  simp only [execOp, ho, hx, Sem.run_bind, Lib.run_next_end_at w b s pos _ hb hlt, Result.andThen_ok, Sem.run_pure]

/-- a string of these bytes -/
def bs (l : List UInt8) : ByteArray := ⟨l.toArray⟩
@[simp] theorem bs_size (l : List UInt8) : (bs l).size = l.length := by simp [bs, ByteArray.size]
theorem bs_append (a b : List UInt8) : bs a ++ bs b = bs (a ++ b) := by
  apply ByteArray.ext
  simp [bs, ByteArray.data_append]
theorem bs_data (s : ByteArray) : bs s.data.toList = s := by simp [bs]
@[simp] theorem bs_toList (l : List UInt8) : (bs l).data.toList = l := by simp [bs]
theorem bs_inj {a b : List UInt8} : bs a = bs b ↔ a = b := ⟨fun h => by have := congrArg (fun s => s.data.toList) h; simpa using this, fun h => by rw [h]⟩
theorem bs_extract (l : List UInt8) (i j : Nat) : (bs l).extract i j = bs ((l.take j).drop i) := by
  apply ByteArray.ext
  simp [bs, ByteArray.data_extract, List.extract_eq_take_drop]
  rw [List.drop_take]
theorem byteAt_bs (l : List UInt8) (i : Nat) : byteAt (bs l) i = ((l[i]?).getD 0).toNat := by simp [byteAt]

/-- what the function made for itself is let go -/
theorem fin_drop {G : Gl} {st : St} {v r : Value} (e : r = v) : Fin G r st fun r hs => r = v ∧ hs = [] := ⟨[], fun w ⟨h, h1, s⟩ => by
  obtain ⟨h', e', s'⟩ := sub_nil s
  exact ⟨h', h1.mono e', s'⟩, e, rfl⟩

/-- a row of bytes made a string -/
theorem OpAt.bytesStr {G : Gl} {o : Oper} {st : St} {K : St → Prop} {src dst e : TypeId} {x : Operand} (g n cap : Nat) (l : List UInt8) (rest : List HP) (ho : o.op = .convert src dst x)
    (hp : ∀ h, sepL st.h G.R h → sepL (rowH (.slice (some ⟨g, 0, none⟩) n cap) n e 1 (l.map fun b => .int .u8 (b.toNat : Int)) :: rest) G.R h) (hx : evR st x = .slice (some ⟨g, 0, none⟩) n cap) (hr : allR st o.op.operands.toList = true)
    (hs : G.P.underlying src = some (.slice e)) (he : G.P.underlying e = some (.int .u8)) (hd : G.P.underlying dst = some .string)
    (k : putK G st o.dst (.v (.string (bs l))) none K) : OpAt G o st K := by
  refine OpAt.val _ (by rw [ho]; rfl) hr (fun w sat => ?_) k
  obtain ⟨h, hsub, sp⟩ := sat
  obtain ⟨h1, h2, d, rfl, r, a⟩ := hp h sp
  obtain ⟨hl, r⟩ := r
  have hn : n = l.length := by simpa using hl.symm
  subst hn
  rcases r with ⟨c, _⟩ | ⟨g', cap', cur, e1, e2, e3, e4, e5, e6⟩
  · cases c
  injection e1 with e1 _ _
  injection e1 with e1
  injection e1 with e1
  subst e1
  have hb : w.heap[g]? = some (.cells cur e (0, 0)) := hsub.left g _ (by rw [e2]; simp)
  have hc : ∀ j (hj : j < l.length), w.cell? ((⟨g, 0, none⟩ : Addr).add j) = some (.int .u8 (l[j].toNat : Int)) := fun j hj => by
    have h3 : cur.toList[j]? = some (.int .u8 (l[j].toNat : Int)) := by
      have : (cur.toList.take (l.length * 1))[j]? = some (.int .u8 (l[j].toNat : Int)) := by rw [e6]; simp [hj]
      rwa [List.getElem?_take_of_lt (by omega)] at this
    have : (⟨g, 0, none⟩ : Addr).add j = ⟨g, j, none⟩ := by cases j <;> simp [Addr.add]
    rw [this]
    unfold World.cell?
    rw [hb]
    simpa using h3
  simp only [execOp, ho, hx, Sem.run_bind, run_convert_bytes_back w src dst e ⟨g, 0, none⟩ cap l hs he hd hc, Result.andThen_ok, Sem.run_pure]
  rfl
end Sy
end Go.Proofs.YtlplbgbnojibmaaGreat

/-
  Symbolic runs: structs of numbers, bools and strings compared.
-/
namespace Go.Proofs.YtlplbgbnojibmaaGreat
open Go.RowKit
namespace Sy
set_option linter.unusedVariables false
set_option linter.unusedSimpArgs false

def eqFs (P : Program) (g : TypeId → List Value → List Value → Option Bool) (xs ys : List Value) : List Field → Option Bool
  | [] => some true
  | f :: fs => if f.name = "_" then none else match g f.type ((xs.drop f.offset).take (P.cellsOf f.type)) ((ys.drop f.offset).take (P.cellsOf f.type)) with
    | some r => match eqFs P g xs ys fs with
      | some r' => some (r && r')
      | none => none
    | none => none
/-- what a comparison of cells comes to -/
def eqT (P : Program) : Nat → TypeId → List Value → List Value → Option Bool
  | 0, _, _, _ => none
  | d + 1, t, xs, ys => match P.underlying t with
    | some (.int _) => match xs, ys with
      | [.int k a], [.int k' b] => if k = k' then some (a == b) else none
      | _, _ => none
    | some .bool => match xs, ys with
      | [.bool a], [.bool b] => some (a == b)
      | _, _ => none
    | some .string => match xs, ys with
      | [.string a], [.string b] => some (decide (a = b))
      | _, _ => none
    | some (.struct fs) => if P.stoodInHeld t = false ∧ xs.length = P.cellsOf t ∧ ys.length = P.cellsOf t then eqFs P (eqT P d) xs ys fs.toList else none
    | _ => none
def Pk (P : Program) (t : TypeId) (xs : List Value) (v : Value) : Prop := (∃ fs, P.underlying t = some (.struct fs)) ∧ v = .agg xs.toArray ∨ (¬ ∃ fs, P.underlying t = some (.struct fs)) ∧ xs = [v]
def eqGood (P : Program) (d : Nat) (t : TypeId) : Prop := ∀ (xs ys : List Value) (r : Bool) (x y : Value) (w : World), eqT P d t xs ys = some r → Pk P t xs x → Pk P t ys y → ∀ dd, d ≤ dd → (Op.equalIn dd t x y).run P w = .ok r w
theorem part_struct {P : Program} {t : TypeId} {fs : Array Field} (hu : P.underlying t = some (.struct fs)) (cs : Array Value) (off : Nat) (w : World) : (part t cs off).run P w = .ok (.agg ((cs.toList.drop off).take (P.cellsOf t)).toArray) w := by
  obtain ⟨i, hi⟩ := info_of_underlying hu
  have h2 : (sizeOf t).run P w = .ok (P.cellsOf t) w := run_sizeOf w hi
  have e : cs.extract off (off + P.cellsOf t) = ((cs.toList.drop off).take (P.cellsOf t)).toArray := by
    apply Array.ext'
    rw [Array.toList_extract]
    simp [List.extract]
  simp [part, isAgg, run_underlying hu, h2, e]
theorem part_leaf {P : Program} {t : TypeId} {d : TypeDesc} (hu : P.underlying t = some d) (hd : d.isRow = false) {cs : Array Value} {off n : Nat} {v : Value} (h : (cs.toList.drop off).take n = [v]) (w : World) : (part t cs off).run P w = .ok v w := by
  have hx : cs[off]? = some v := by
    have h1 : ((cs.toList.drop off).take n)[0]? = some v := by rw [h]; rfl
    rw [List.getElem?_take] at h1
    split at h1
    · rw [List.getElem?_drop] at h1
      simpa using h1
    · cases h1
  have hagg : (isAgg t).run P w = .ok false w := by
    unfold isAgg
    rw [Sem.run_bind, run_underlying hu w]
    cases d <;> simp_all [TypeDesc.isRow]
  unfold part
  rw [Sem.run_bind, hagg]
  simp [hx]
theorem part_pk {P : Program} {d : Nat} {t : TypeId} {xs ys : Array Value} {off : Nat} {r : Bool} (h : eqT P d t ((xs.toList.drop off).take (P.cellsOf t)) ((ys.toList.drop off).take (P.cellsOf t)) = some r) (w : World) :
    ∃ a b, (part t xs off).run P w = .ok a w ∧ (part t ys off).run P w = .ok b w ∧ Pk P t ((xs.toList.drop off).take (P.cellsOf t)) a ∧ Pk P t ((ys.toList.drop off).take (P.cellsOf t)) b := by
  cases d with
  | zero => cases h
  | succ d =>
    unfold eqT at h
    split at h
    · rename_i k hu
      split at h
      · rename_i e1 e2
        exact ⟨_, _, part_leaf hu rfl e1 w, part_leaf hu rfl e2 w, .inr ⟨(by rintro ⟨fs, e⟩; rw [hu] at e; cases e), e1⟩, .inr ⟨(by rintro ⟨fs, e⟩; rw [hu] at e; cases e), e2⟩⟩
      · cases h
    · rename_i hu
      split at h
      · rename_i e1 e2
        exact ⟨_, _, part_leaf hu rfl e1 w, part_leaf hu rfl e2 w, .inr ⟨(by rintro ⟨fs, e⟩; rw [hu] at e; cases e), e1⟩, .inr ⟨(by rintro ⟨fs, e⟩; rw [hu] at e; cases e), e2⟩⟩
      · cases h
    · rename_i hu
      split at h
      · rename_i e1 e2
        exact ⟨_, _, part_leaf hu rfl e1 w, part_leaf hu rfl e2 w, .inr ⟨(by rintro ⟨fs, e⟩; rw [hu] at e; cases e), e1⟩, .inr ⟨(by rintro ⟨fs, e⟩; rw [hu] at e; cases e), e2⟩⟩
      · cases h
    · rename_i fs hu
      exact ⟨_, _, part_struct hu _ _ w, part_struct hu _ _ w, .inl ⟨⟨fs, hu⟩, rfl⟩, .inl ⟨⟨fs, hu⟩, rfl⟩⟩
    · cases h
theorem eqFs_sound {P : Program} {d dd : Nat} (IH : ∀ t, eqGood P d t) (hd : d ≤ dd) {xs ys : Array Value} {w : World} : ∀ {fs : List Field} {r : Bool}, eqFs P (eqT P d) xs.toList ys.toList fs = some r → (Op.eqFields dd xs ys fs).run P w = .ok r w
  | [], r, h => by
    simp only [eqFs, Option.some.injEq] at h
    subst h
    simp [Op.eqFields]
  | f :: fs, r, h => by
    unfold eqFs at h
    split at h
    · cases h
    · rename_i hn
      split at h
      · rename_i r1 h1
        split at h
        · rename_i r2 h2
          injection h with h
          subst h
          obtain ⟨a, b, p1, p2, k1, k2⟩ := part_pk h1 w
          have e := IH f.type _ _ _ _ _ w h1 k1 k2 dd hd
          have e2 := eqFs_sound IH hd (w := w) h2
          simp only [Op.eqFields, hn, ne_eq, not_false_eq_true, if_true, Sem.run_bind, p1, p2, e, Result.andThen_ok, Sem.run_ite, Sem.run_pure]
          cases r1 <;> simp [e2]
        · cases h
      · cases h
theorem eqT_good (P : Program) : ∀ (d : Nat) (t : TypeId), eqGood P d t
  | 0, t => fun _ _ _ _ _ _ h => by cases h
  | d + 1, t => by
    intro xs ys r x y w h kx ky dd hdd
    obtain ⟨dd, rfl⟩ : ∃ e, dd = e + 1 := ⟨dd - 1, by omega⟩
    unfold eqT at h
    have leaf : (¬ ∃ fs, P.underlying t = some (.struct fs)) → xs = [x] ∧ ys = [y] := fun hn => by
      rcases kx with ⟨e, _⟩ | ⟨_, e⟩
      · exact absurd e hn
      · rcases ky with ⟨e', _⟩ | ⟨_, e'⟩
        · exact absurd e' hn
        · exact ⟨e, e'⟩
    split at h
    · rename_i k hu
      obtain ⟨rfl, rfl⟩ := leaf (by rintro ⟨fs, e⟩; rw [hu] at e; cases e)
      split at h
      · rename_i k1 a k2 b e1 e2
        simp only [List.cons.injEq, and_true] at e1 e2
        subst e1 e2
        split at h
        · rename_i ek
          subst ek
          injection h with h
          subst h
          exact run_equalIn_int w dd t _ k a b hu
        · cases h
      · cases h
    · rename_i hu
      obtain ⟨rfl, rfl⟩ := leaf (by rintro ⟨fs, e⟩; rw [hu] at e; cases e)
      split at h
      · rename_i a b e1 e2
        simp only [List.cons.injEq, and_true] at e1 e2
        subst e1 e2
        injection h with h
        subst h
        exact run_equalIn_bool w dd t a b hu
      · cases h
    · rename_i hu
      obtain ⟨rfl, rfl⟩ := leaf (by rintro ⟨fs, e⟩; rw [hu] at e; cases e)
      split at h
      · rename_i a b e1 e2
        simp only [List.cons.injEq, and_true] at e1 e2
        subst e1 e2
        injection h with h
        subst h
        rw [← str_beq]
        exact run_equalIn_string w dd t a b hu
      · cases h
    · rename_i fs hu
      split at h
      · rename_i hc
        have hx : x = .agg xs.toArray := by
          rcases kx with ⟨_, e⟩ | ⟨e, _⟩
          · exact e
          · exact absurd ⟨fs, hu⟩ e
        have hy : y = .agg ys.toArray := by
          rcases ky with ⟨_, e⟩ | ⟨e, _⟩
          · exact e
          · exact absurd ⟨fs, hu⟩ e
        subst hx hy
        have hf : P.fieldsOf t = fs := by unfold Program.fieldsOf; rw [hu]
        rw [run_equalIn_struct w dd t _ _ (by rw [hf]; exact hu) hc.1, hf]
        exact eqFs_sound (eqT_good P d) (by omega) (by simpa using h)
      · cases h
    · cases h
/-- structs compared -/
theorem eq_agg {P : Program} {t : TypeId} (d : Nat) {xs ys : Array Value} {r : Bool} (hs : (P.underlying t).map (fun u => match u with | .struct _ => true | _ => false) = some true) (hd : d ≤ 10000) (h : eqT P d t xs.toList ys.toList = some r) (w : World) : (Op.equalIn 10000 t (.agg xs) (.agg ys)).run P w = .ok r w := by
  obtain ⟨fs, hu⟩ : ∃ fs, P.underlying t = some (.struct fs) := by
    cases hu : P.underlying t with
    | none => rw [hu] at hs; cases hs
    | some u => cases u <;> rw [hu] at hs <;> first | exact ⟨_, rfl⟩ | (simp at hs)
  exact eqT_good P d t _ _ _ _ _ w h (.inl ⟨⟨fs, hu⟩, rfl⟩) (.inl ⟨⟨fs, hu⟩, rfl⟩) 10000 hd
end Sy
end Go.Proofs.YtlplbgbnojibmaaGreat

/-
  Symbolic runs: slices that are only read, of whatever the elements are.
-/
namespace Go.Proofs.YtlplbgbnojibmaaGreat
open Go.RowKit
namespace Sy
set_option linter.unusedVariables false
set_option linter.unusedSimpArgs false

def Sl (R : HP) (A : Option Addr) (n size : Nat) (xs : List Value) : Prop := ∀ w, Sat R w → Reads w w.heap.size size A n xs
/-- where they are -/
def SpotV (R : HP) (A : Option Addr) (n : Nat) (xs : List Value) : Prop := n = 0 ∨ ∃ b off, A = some ⟨b, off, none⟩ ∧ ∀ w, Sat R w → ∀ (j : Nat) u, xs[j]? = some u → w.cell? ⟨b, off + j, none⟩ = some u
theorem Sl.spot {R : HP} {A : Option Addr} {n size : Nat} {xs : List Value} (hs : 0 < size) (h : Sl R A n size xs) {w : World} (s : Sat R w) : xs.length = n * size ∧ SpotV R A n xs := by
  have hr := h w s
  refine ⟨hr.1, ?_⟩
  rcases Nat.eq_zero_or_pos n with h0 | h0
  · exact .inl h0
  · right
    obtain ⟨ad, e, hb, hc⟩ := hr.2 h0
    obtain ⟨b, off, spot⟩ := ad
    have hl : 0 < xs.length := by rw [hr.1]; exact Nat.mul_pos h0 hs
    have h1 := hc 0 _ (List.getElem?_eq_getElem hl)
    have hs : spot = none := by simpa [Addr.add] using World.cell?_spot h1
    subst hs
    refine ⟨b, off, e, fun w' s' j u hu => ?_⟩
    obtain ⟨ad', e', _, hc'⟩ := (h w' s').2 h0
    rw [e] at e'
    injection e' with e'
    subst e'
    have := hc' j u hu
    rwa [add_plain] at this
theorem Sl.mono {R R' : HP} {A : Option Addr} {n size : Nat} {xs : List Value} (h : Sl R A n size xs) (hr : ∀ w, Sat R' w → Sat R w) : Sl R' A n size xs := fun w s => h w (hr w s)
theorem Sl.row {R : HP} {A : Option Addr} {n c size : Nat} {e : TypeId} {xs : List Value} (h : ∀ w, Sat R w → Sat (rowH (.slice A n c) n e size xs) w) : Sl R A n size xs := fun w s => rowH_reads rfl (h w s)
theorem sl_of_reads {w : World} {A : Option Addr} {n size : Nat} {xs : List Value} (hs : 0 < size) (h : Reads w w.heap.size size A n xs) : Sl (was w) A n size xs := by
  intro w' s
  refine ⟨h.1, fun hn => ?_⟩
  obtain ⟨ad, e, hb, hc⟩ := h.2 hn
  have key : ∀ p : Addr, p.block < w.heap.size → w'.cell? p = w.cell? p := fun p hp => by
    have e0 : w.heap[p.block]? = some w.heap[p.block] := Array.getElem?_eq_getElem hp
    have e1 : w'.heap[p.block]? = w.heap[p.block]? := by rw [e0]; exact was_ext s e0
    simp only [World.cell?, e1]
  refine ⟨ad, e, ?_, fun j u hu => (key _ (by rw [add_block]; exact hb)).trans (hc j u hu)⟩
  have e0 : w.heap[ad.block]? = some w.heap[ad.block] := Array.getElem?_eq_getElem hb
  exact (Array.getElem?_eq_some_iff.1 (was_ext s e0)).1
theorem Sl.nil (R : HP) (A : Option Addr) (size : Nat) : Sl R A 0 size [] := fun w s => Reads.empty
end Sy
end Go.Proofs.YtlplbgbnojibmaaGreat

/-
  Slices of structs of numbers among the arguments.
-/
namespace Go.Proofs.YtlplbgbnojibmaaGreat
open Go.ChangeShapes Go.WideShapes Go.ChangeAt Go.RowKit Go.Joins
namespace Sy
set_option linter.unusedVariables false
set_option linter.unusedSimpArgs false

def leafF (g : TypeId → Nat → Option IntKind) (P : Program) (j : Nat) : List Field → Option IntKind
  | [] => none
  | f :: fs => if f.offset ≤ j ∧ j < f.offset + P.cellsOf f.type then g f.type (j - f.offset) else leafF g P j fs
/-- the kind of the number that is a type's cell -/
def leafK (P : Program) : Nat → TypeId → Nat → Option IntKind
  | 0, _, _ => none
  | d + 1, t, j => match P.underlying t with
    | some (.int k) => if j = 0 then some k else none
    | some (.struct fs) => leafF (leafK P d) P j fs.toList
    | _ => none
theorem leafF_some {g : TypeId → Nat → Option IntKind} {P : Program} {j : Nat} {k : IntKind} : ∀ {l : List Field}, leafF g P j l = some k → ∃ (i : Nat) (f : Field), l[i]? = some f ∧ f.offset ≤ j ∧ j < f.offset + P.cellsOf f.type ∧ g f.type (j - f.offset) = some k
  | [], h => by cases h
  | f :: fs, h => by
    unfold leafF at h
    split at h
    · rename_i hc
      exact ⟨0, f, rfl, hc.1, hc.2, h⟩
    · obtain ⟨i, f', h1, h2⟩ := leafF_some h
      exact ⟨i + 1, f', by simpa using h1, h2⟩
section
variable {H : Type} {enc : TypeId × Value → H} {P : Program} {w : World} {base : Nat} {spare : Nat → Bool} {held : Bool}
theorem trod_leaf : ∀ (d : Nat) {t : TypeId} {j : Nat} {k : IntKind} {fuel : Nat} {cs : List Value} {x : DataW H × List MemPlace}, leafK P d t j = some k → DataW.trod enc P w base spare held fuel t cs = some x → ∃ z, cs[j]? = some (.int k z) ∧ (Lit.int k z).wf = true
  | 0, t, j, k, fuel, cs, x, h, _ => by cases h
  | d + 1, t, j, k, fuel, cs, x, h, hx => by
    unfold leafK at h
    split at h
    · rename_i k' hu
      split at h
      · rename_i hj
        injection h with h
        subst h hj
        obtain ⟨z, e, _, hw⟩ := DataW.trod_int hu hx
        exact ⟨z, by rw [e]; rfl, hw⟩
      · cases h
    · rename_i fs hu
      obtain ⟨i, f, h1, h2, h3, h4⟩ := leafF_some h
      obtain ⟨xs, n, _, rfl, hl, hlen, hf⟩ := DataW.trod_struct hu hx
      have h1' : fs[i]? = some f := by simpa using h1
      have hf' := hf i f (by simpa using h1)
      have hlt : i < xs.length := by rw [hlen]; exact (Array.getElem?_eq_some_iff.1 h1').1
      rw [List.getElem?_eq_getElem hlt] at hf'
      obtain ⟨z, e, hw⟩ := trod_leaf d h4 hf'
      refine ⟨z, ?_, hw⟩
      rw [List.getElem?_take] at e
      split at e
      · rw [List.getElem?_drop] at e
        rw [← e]
        congr 1
        omega
      · cases e
    · cases h
/-- a slice of structs of numbers -/
theorem open_flat {t e : TypeId} {fuel : Nat} {cs : List Value} {x : DataW H × List MemPlace} (s : Nat) (ks : Nat → IntKind) (ht : P.underlying t = some (.slice e)) (hs : P.cellsOf e = s) (hk : ∀ j, j < s → leafK P 6 e j = some (ks j)) (h : DataW.trod enc P w base spare held fuel t cs = some x) :
    cs = [.slice none 0 0] ∨ ∃ (a : Addr) (len cap : Nat) (zs : Nat → Nat → Int), cs = [.slice (some a) len cap] ∧ len ≤ cap ∧ cap ≤ maxLen ∧ ∀ i j, i < len → j < s → w.cell? (a.add (i * s + j)) = some (.int (ks j) (zs i j)) ∧ (Lit.int (ks j) (zs i j)).wf = true := by
  rcases Go.Deep.open_slice ht h with ⟨h0, _⟩ | ⟨a, len, cap, m, n, D, Pl, rfl, hb, hl, hm, hmm, rfl, hx⟩
  · exact .inl h0
  right
  have hle : len ≤ m := by rw [hmm]; split <;> omega
  have key : ∀ i j, ∃ z, i < len → j < s → w.cell? (a.add (i * s + j)) = some (.int (ks j) z) ∧ (Lit.int (ks j) z).wf = true := by
    intro i j
    by_cases c : i < len ∧ j < s
    · obtain ⟨cs', h1, h2⟩ := hx i (by omega)
      obtain ⟨z, e, hw⟩ := trod_leaf 6 (hk j c.2) h2
      obtain ⟨_, hlen, hcell⟩ := World.cells?_some h1
      have hj : j < cs'.length := (List.getElem?_eq_some_iff.1 e).1
      refine ⟨z, fun _ _ => ⟨?_, hw⟩⟩
      have h3 := hcell j (by rw [← hlen]; exact hj)
      rw [e] at h3
      rw [hs, Addr.add_add] at h3
      exact h3
    · exact ⟨0, fun h1 h2 => absurd ⟨h1, h2⟩ c⟩
  exact ⟨a, len, cap, fun i j => Classical.choose (key i j), rfl, hl, hm, fun i j hi hj => Classical.choose_spec (key i j) hi hj⟩
end
/-- what such a slice reads as -/
theorem reads_flat {w : World} {a : Addr} {len s : Nat} {ks : Nat → IntKind} {zs : Nat → Nat → Int} (hs : 0 < s) (h : ∀ i j, i < len → j < s → w.cell? (a.add (i * s + j)) = some (.int (ks j) (zs i j)) ∧ (Lit.int (ks j) (zs i j)).wf = true) {xs : List Value} (hl : xs.length = len * s) (hx : ∀ i j, i < len → j < s → xs[i * s + j]? = some (.int (ks j) (zs i j))) :
    Reads w w.heap.size s (some a) len xs := by
  refine ⟨hl, fun hn => ⟨a, rfl, ?_, fun j u hu => ?_⟩⟩
  · have := (h 0 0 hn hs).1
    have := World.block_lt_of_cell? w _ this
    rwa [add_block] at this
  · have hj : j < len * s := by rw [← hl]; exact (List.getElem?_eq_some_iff.1 hu).1
    have h1 : j / s < len := Nat.div_lt_of_lt_mul (by rw [Nat.mul_comm]; exact hj)
    have h2 : j % s < s := Nat.mod_lt _ hs
    have e : j / s * s + j % s = j := by have := Nat.div_add_mod j s; rw [Nat.mul_comm] at this; exact this
    have h3 := hx (j / s) (j % s) h1 h2
    have h4 := (h (j / s) (j % s) h1 h2).1
    rw [e] at h3 h4
    rw [h3] at hu
    injection hu with hu
    rw [h4, hu]
end Sy
end Go.Proofs.YtlplbgbnojibmaaGreat

/-
  rect.Right, Hull, Meet, Has and the document's Right, Hull, Has, Meet.
-/
namespace Go.Proofs.YtlplbgbnojibmaaGreat
open Go.RowKit
open Sy
set_option linter.unusedVariables false
set_option linter.unusedSimpArgs false
set_option maxRecDepth 100000
set_option maxHeartbeats 4000000

/-- corners -/
structure Q4 where
  x0 : Int
  y0 : Int
  x1 : Int
  y1 : Int
  deriving DecidableEq
abbrev Q4.v (r : Q4) : Value := rectV r.x0 r.y0 r.x1 r.y1
def Q4.ok (r : Q4) : Prop := 0 ≤ r.x0 ∧ r.x0 ≤ r.x1 ∧ r.x1 < 1024 ∧ 0 ≤ r.y0 ∧ r.y0 ≤ r.y1 ∧ r.y1 < 1024
instance (r : Q4) : Decidable r.ok := by unfold Q4.ok; infer_instance
def Q4.none : Q4 := ⟨0, 0, 0, 0⟩
theorem q4_eq (f g : Q4) (w : World) : (Op.equalIn 10000 24 f.v g.v).run Tryz.prog w = .ok (decide (f = g)) w :=
  (eq_agg 4 (by rfl) (by decide) (r := (f.x0 == g.x0 && (f.y0 == g.y0 && (f.x1 == g.x1 && (f.y1 == g.y1 && true))))) (by kernel_rfl) w).trans (by
    congr 1
    obtain ⟨a, b, c, d⟩ := f
    obtain ⟨e, i, j, k⟩ := g
    rw [Bool.eq_iff_iff]
    simp)
def hull (a b : Q4) : Q4 := if ¬ a.ok ∧ ¬ b.ok then ⟨0, 0, 0, 0⟩ else if ¬ a.ok then b else if ¬ b.ok then a else ⟨min a.x0 b.x0, min a.y0 b.y0, max a.x1 b.x1, max a.y1 b.y1⟩
theorem pRight (r : Q4) (R : HP) : PureR Tryz.prog R 75 [r.v] (.bool (decide r.ok)) :=
  PureR.of_below fun w _ => (Right_any r.x0 r.y0 r.x1 r.y1 w).mono fun e w' ⟨h1, h2⟩ => ⟨by
    rw [h1]
    congr 2
    have := right_iff r.x0 r.y0 r.x1 r.y1
    by_cases c : r.ok
    · rw [decide_eq_true c]; exact this.2 c
    · rw [decide_eq_false c]
      cases e : rightB r.x0 r.y0 r.x1 r.y1 with
      | false => rfl
      | true => exact absurd (this.1 e) c, h2⟩
end Go.Proofs.YtlplbgbnojibmaaGreat

/-
  Partial sums by lowest bits: the plain law.
-/
namespace Go.Proofs.YtlplbgbnojibmaaGreat
open Go.RowKit
open Sy
set_option linter.unusedVariables false
set_option linter.unusedSimpArgs false
set_option maxRecDepth 100000
set_option maxHeartbeats 4000000

/-! the lowest bit -/
def lob (n : Nat) : Nat := if h : n = 0 then 0 else if n % 2 = 1 then 1 else 2 * lob (n / 2)
termination_by n
decreasing_by omega
theorem lob_odd (n : Nat) : lob (2 * n + 1) = 1 := by rw [lob, dif_neg (by omega), if_pos (by omega)]
theorem lob_even (n : Nat) (h : 0 < n) : lob (2 * n) = 2 * lob n := by rw [lob, dif_neg (by omega), if_neg (by omega), show 2 * n / 2 = n by omega]
theorem lob_pos : ∀ n : Nat, 0 < n → 0 < lob n ∧ lob n ≤ n := by
  intro n
  induction n using Nat.strongRecOn with
  | _ n ih =>
    intro h
    obtain ⟨m, rfl | rfl⟩ : ∃ y, n = 2 * y ∨ n = 2 * y + 1 := ⟨n / 2, by omega⟩
    · have := ih m (by omega) (by omega)
      rw [lob_even m (by omega)]; omega
    · rw [lob_odd]; omega
def upb (n : Nat) : Nat := n + lob n
theorem upb_odd (n : Nat) : upb (2 * n + 1) = 2 * (n + 1) := by unfold upb; rw [lob_odd]; omega
theorem upb_even (n : Nat) (h : 0 < n) : upb (2 * n) = 2 * upb n := by unfold upb; rw [lob_even n h]; omega
theorem upb_gt {n : Nat} (h : 0 < n) : n < upb n := by have := lob_pos n h; unfold upb; omega
/-- does z have i? -/
def cov (z i : Nat) : Prop := z - lob z < i ∧ i ≤ z
theorem cov_odd {z i : Nat} : cov (2 * z + 1) i ↔ i = 2 * z + 1 := by unfold cov; rw [lob_odd]; omega
theorem cov_even {z i : Nat} (h : 0 < z) : cov (2 * z) i ↔ cov z ((i + 1) / 2) := by
  unfold cov
  rw [lob_even z h]
  have := lob_pos z h
  omega
theorem two2 (n : Nat) : n = 2 * (n / 2) ∨ n = 2 * (n / 2) + 1 := by omega
theorem cov_iff : ∀ z i : Nat, 0 < i → (cov z i ↔ z = i ∨ cov z (upb i)) := by
  intro z
  induction z using Nat.strongRecOn with
  | _ z ih =>
    intro i hi
    obtain ⟨j, rfl | rfl⟩ : ∃ j, i = 2 * j ∨ i = 2 * j + 1 := ⟨i / 2, two2 i⟩
    · rw [upb_even j (by omega)]
      obtain ⟨y, rfl | rfl⟩ : ∃ y, z = 2 * y ∨ z = 2 * y + 1 := ⟨z / 2, two2 z⟩
      · by_cases y0 : y = 0
        · subst y0
          unfold cov; omega
        · rw [cov_even (by omega), cov_even (by omega), show (2 * j + 1) / 2 = j by omega, show (2 * upb j + 1) / 2 = upb j by omega, ih y (by omega) j (by omega)]
          exact or_congr ⟨fun h => by omega, fun h => by omega⟩ Iff.rfl
      · rw [cov_odd, cov_odd]; omega
    · rw [upb_odd]
      obtain ⟨y, rfl | rfl⟩ : ∃ y, z = 2 * y ∨ z = 2 * y + 1 := ⟨z / 2, two2 z⟩
      · by_cases y0 : y = 0
        · subst y0
          unfold cov; omega
        · rw [cov_even (by omega), cov_even (by omega), show (2 * j + 1 + 1) / 2 = j + 1 by omega, show (2 * (j + 1) + 1) / 2 = j + 1 by omega]
          constructor
          · exact fun h => .inr h
          · rintro (h | h)
            · omega
            · exact h
      · rw [cov_odd, cov_odd]; omega
theorem cov_upb_ne {i : Nat} (h : 0 < i) : ¬ cov i (upb i) := by
  have := upb_gt h
  unfold cov; omega
theorem cov_self {i : Nat} (h : 0 < i) : cov i i := by have := lob_pos i h; unfold cov; omega
/-- only one is ahead of another one, on the way from i -/
theorem cov_uniq : ∀ c d i : Nat, 0 < c → 0 < d → cov c i → cov d i → upb c = upb d → c = d := by
  intro c
  induction c using Nat.strongRecOn with
  | _ c ih =>
    intro d i hc hd h1 h2 h3
    obtain ⟨y, rfl | rfl⟩ : ∃ y, c = 2 * y ∨ c = 2 * y + 1 := ⟨c / 2, two2 c⟩
    · obtain ⟨z, rfl | rfl⟩ : ∃ z, d = 2 * z ∨ d = 2 * z + 1 := ⟨d / 2, two2 d⟩
      · rw [cov_even (by omega)] at h1 h2
        rw [upb_even _ (by omega), upb_even _ (by omega)] at h3
        have := ih y (by omega) z _ (by omega) (by omega) h1 h2 (by omega)
        omega
      · rw [cov_even (by omega)] at h1
        rw [cov_odd] at h2
        subst h2
        rw [upb_even _ (by omega), upb_odd] at h3
        have := upb_gt (show 0 < y by omega)
        have h1' := h1.2
        omega
    · obtain ⟨z, rfl | rfl⟩ : ∃ z, d = 2 * z ∨ d = 2 * z + 1 := ⟨d / 2, two2 d⟩
      · rw [cov_odd] at h1
        subst h1
        rw [cov_even (by omega)] at h2
        rw [upb_odd, upb_even _ (by omega)] at h3
        have := upb_gt (show 0 < z by omega)
        have h2' := h2.2
        omega
      · rw [cov_odd] at h1 h2
        omega
/-- and there is one -/
theorem cov_pred : ∀ z i : Nat, 0 < i → cov z i → i ≠ z → ∃ c, 0 < c ∧ c < z ∧ cov c i ∧ upb c = z := by
  intro z
  induction z using Nat.strongRecOn with
  | _ z ih =>
    intro i hi h hne
    obtain ⟨y, rfl | rfl⟩ : ∃ y, z = 2 * y ∨ z = 2 * y + 1 := ⟨z / 2, two2 z⟩
    · by_cases y0 : y = 0
      · subst y0
        unfold cov at h; omega
      · rw [cov_even (by omega)] at h
        obtain ⟨j, rfl | rfl⟩ : ∃ j, i = 2 * j ∨ i = 2 * j + 1 := ⟨i / 2, two2 i⟩
        · rw [show (2 * j + 1) / 2 = j by omega] at h
          obtain ⟨c, c1, c2, c3, c4⟩ := ih y (by omega) j (by omega) h (by omega)
          refine ⟨2 * c, by omega, by omega, ?_, by rw [upb_even c c1, c4]⟩
          rw [cov_even c1, show (2 * j + 1) / 2 = j by omega]
          exact c3
        · rw [show (2 * j + 1 + 1) / 2 = j + 1 by omega] at h
          by_cases e : j + 1 = y
          · subst e
            exact ⟨2 * j + 1, by omega, by omega, cov_odd.2 rfl, upb_odd j⟩
          · obtain ⟨c, c1, c2, c3, c4⟩ := ih y (by omega) (j + 1) (by omega) h e
            refine ⟨2 * c, by omega, by omega, ?_, by rw [upb_even c c1, c4]⟩
            rw [cov_even c1, show (2 * j + 1 + 1) / 2 = j + 1 by omega]
            exact c3
    · rw [cov_odd] at h
      exact absurd h hne
/-- the last ones of the first x, and those ahead of them -/
theorem cov_lt {x i : Nat} (hx : 0 < x) : i < x ↔ cov x (i + 1) ∨ i < x - lob x := by
  have := lob_pos x hx
  unfold cov; omega
theorem cov_lt_ne {x i : Nat} : ¬ (cov x (i + 1) ∧ i < x - lob x) := by unfold cov; omega
theorem cov_le {x i : Nat} (h : cov x i) : i ≤ x := h.2
theorem cov_zero {i : Nat} : ¬ cov 0 i := by unfold cov; omega

/-! sums of those that are wanted -/
noncomputable def dot (n : Nat) (A : Nat → Prop) (g : Nat → Int) : Int := by
  classical
  exact match n with
    | 0 => 0
    | n + 1 => dot n A g + (if A n then g n else 0)
theorem dot_zero (A : Nat → Prop) (g : Nat → Int) : dot 0 A g = 0 := by rw [dot]
open Classical in
theorem dot_succ (n : Nat) (A : Nat → Prop) (g : Nat → Int) : dot (n + 1) A g = dot n A g + (if A n then g n else 0) := by rw [dot]
theorem dot_congr {n : Nat} {A B : Nat → Prop} {g k : Nat → Int} (h : ∀ i, i < n → (A i ↔ B i)) (h2 : ∀ i, i < n → A i → g i = k i) : dot n A g = dot n B k := by
  induction n with
  | zero => rw [dot_zero, dot_zero]
  | succ n ih =>
    rw [dot_succ, dot_succ, ih (fun i hi => h i (by omega)) (fun i hi => h2 i (by omega))]
    by_cases c : A n
    · rw [if_pos c, if_pos ((h n (by omega)).1 c), h2 n (by omega) c]
    · rw [if_neg c, if_neg (fun d => c ((h n (by omega)).2 d))]
theorem dot_or {n : Nat} {A B C : Nat → Prop} {g : Nat → Int} (h : ∀ i, i < n → (C i ↔ A i ∨ B i)) (h2 : ∀ i, i < n → ¬ (A i ∧ B i)) : dot n C g = dot n A g + dot n B g := by
  induction n with
  | zero => simp only [dot_zero]; rfl
  | succ n ih =>
    rw [dot_succ, dot_succ, dot_succ, ih (fun i hi => h i (by omega)) (fun i hi => h2 i (by omega))]
    have h3 := h n (by omega)
    have h4 := h2 n (by omega)
    by_cases a : A n <;> by_cases b : B n
    · exact absurd ⟨a, b⟩ h4
    · rw [if_pos a, if_neg b, if_pos (h3.2 (.inl a))]; omega
    · rw [if_neg a, if_pos b, if_pos (h3.2 (.inr b))]; omega
    · rw [if_neg a, if_neg b, if_neg (fun c => (h3.1 c).elim a b)]; omega
theorem dot_none {n : Nat} {A : Nat → Prop} {g : Nat → Int} (h : ∀ i, i < n → ¬ A i) : dot n A g = 0 := by
  induction n with
  | zero => rw [dot_zero]
  | succ n ih => rw [dot_succ, ih (fun i hi => h i (by omega)), if_neg (h n (by omega))]; rfl
theorem dot_one {n k : Nat} {A : Nat → Prop} {g : Nat → Int} (hk : k < n) (h : ∀ i, i < n → (A i ↔ i = k)) : dot n A g = g k := by
  induction n with
  | zero => omega
  | succ n ih =>
    rw [dot_succ]
    by_cases c : k = n
    · subst c
      rw [dot_none (fun i hi a => by have := (h i (by omega)).1 a; omega), if_pos ((h k (by omega)).2 rfl)]; omega
    · rw [ih (by omega) (fun i hi => h i (by omega)), if_neg (fun a => c ((h n (by omega)).1 a).symm)]; omega
theorem dot_add {n : Nat} {A : Nat → Prop} {g k : Nat → Int} : dot n A (fun i => g i + k i) = dot n A g + dot n A k := by
  induction n with
  | zero => simp only [dot_zero]; rfl
  | succ n ih =>
    rw [dot_succ, dot_succ, dot_succ, ih]
    by_cases c : A n
    · rw [if_pos c, if_pos c, if_pos c]; omega
    · rw [if_neg c, if_neg c, if_neg c]; omega
open Classical in
theorem dot_upd {n k : Nat} {A : Nat → Prop} {g : Nat → Int} {d : Int} (hk : k < n) : dot n A (fun i => if i = k then g i + d else g i) = dot n A g + (if A k then d else 0) := by
  have e : (fun i => if i = k then g i + d else g i) = fun i => g i + (if i = k then d else 0) := by
    funext i
    by_cases c : i = k
    · rw [if_pos c, if_pos c]
    · rw [if_neg c, if_neg c]; omega
  rw [e, dot_add]
  congr 1
  by_cases c : A k
  · rw [if_pos c]
    have : dot n A (fun i => if i = k then d else 0) = dot n (fun i => i = k) (fun i => if i = k then d else 0) := by
      have := dot_or (n := n) (A := fun i => i = k) (B := fun i => A i ∧ i ≠ k) (C := A) (g := fun i => if i = k then d else 0) (fun i _ => by
        constructor
        · intro a
          by_cases c' : i = k
          · exact .inl c'
          · exact .inr ⟨a, c'⟩
        · rintro (rfl | a)
          · exact c
          · exact a.1) (fun i _ => by rintro ⟨a, b⟩; exact b.2 a)
      rw [this]
      have z : dot n (fun i => A i ∧ i ≠ k) (fun i => if i = k then d else 0) = 0 := by
        have : dot n (fun i => A i ∧ i ≠ k) (fun i => if i = k then d else 0) = dot n (fun i => A i ∧ i ≠ k) (fun _ => 0) := dot_congr (fun _ _ => .rfl) fun i _ h => if_neg h.2
        rw [this]
        clear this
        induction n with
        | zero => exact dot_zero _ _
        | succ n ih2 =>
          rw [dot_succ]
          have hz : ∀ m, dot m (fun i => A i ∧ i ≠ k) (fun _ => 0) = 0 := by
            intro m
            induction m with
            | zero => exact dot_zero _ _
            | succ m ihm => rw [dot_succ, ihm]; split <;> rfl
          rw [hz]; split <;> rfl
      rw [z]; omega
    rw [this, dot_one hk (fun i _ => .rfl)]
    exact if_pos rfl
  · rw [if_neg c]
    have : dot n A (fun i => if i = k then d else 0) = dot n A (fun _ => 0) := dot_congr (fun _ _ => .rfl) fun i _ h => if_neg (fun (e : i = k) => c (by rw [← e]; exact h))
    rw [this]
    clear this hk e
    induction n with
    | zero => exact dot_zero _ _
    | succ m ihm => rw [dot_succ, ihm]; split <;> rfl
theorem dot_bound {n : Nat} {A : Nat → Prop} {g : Nat → Int} {M : Int} (hM : 0 ≤ M) (h : ∀ i, i < n → -M ≤ g i ∧ g i ≤ M) : -(M * n) ≤ dot n A g ∧ dot n A g ≤ M * n := by
  induction n with
  | zero => rw [dot_zero]; simp
  | succ n ih =>
    have h1 := ih fun i hi => h i (by omega)
    have h2 := h n (by omega)
    rw [dot_succ]
    have e : M * ((n + 1 : Nat) : Int) = M * n + M := by rw [Int.natCast_add, Int.mul_add]; simp
    rw [e]
    split <;> omega

/-! a table of partial sums -/
/-- those of i to which something of z has come, by steps from below p -/
def rch (p z i : Nat) : Prop := cov z i ∧ (i = z ∨ ∃ c, 0 < c ∧ c < p ∧ cov c i ∧ upb c = z)
theorem rch_one {z i : Nat} (hi : 0 < i) : rch 1 z i ↔ i = z := by
  constructor
  · rintro ⟨_, h | ⟨c, h1, h2, _⟩⟩
    · exact h
    · omega
  · rintro rfl
    exact ⟨cov_self hi, .inl rfl⟩
theorem rch_all {p z i : Nat} (hi : 0 < i) (hz : z ≤ p) : rch p z i ↔ cov z i := by
  constructor
  · exact fun h => h.1
  · intro h
    by_cases e : i = z
    · exact ⟨h, .inl e⟩
    · obtain ⟨c, c1, c2, c3, c4⟩ := cov_pred z i hi h e
      exact ⟨h, .inr ⟨c, c1, by omega, c3, c4⟩⟩
theorem rch_step {p z i : Nat} (hi : 0 < i) (hp : 0 < p) : rch (p + 1) z i ↔ rch p z i ∨ (z = upb p ∧ cov p i) := by
  constructor
  · rintro ⟨h, h' | ⟨c, c1, c2, c3, c4⟩⟩
    · exact .inl ⟨h, .inl h'⟩
    · by_cases e : c = p
      · subst e
        exact .inr ⟨c4.symm, c3⟩
      · exact .inl ⟨h, .inr ⟨c, c1, by omega, c3, c4⟩⟩
  · rintro (⟨h, h' | ⟨c, c1, c2, c3, c4⟩⟩ | ⟨rfl, h⟩)
    · exact ⟨h, .inl h'⟩
    · exact ⟨h, .inr ⟨c, c1, by omega, c3, c4⟩⟩
    · refine ⟨?_, .inr ⟨p, hp, by omega, h, rfl⟩⟩
      have h1 := h.1
      have h2 := h.2
      have h3 := upb_gt hp
      refine ⟨?_, by omega⟩
      have key : ∀ p : Nat, 0 < p → upb p - lob (upb p) ≤ p - lob p := by
        intro p
        induction p using Nat.strongRecOn with
        | _ p ih =>
          intro hp
          obtain ⟨y, rfl | rfl⟩ : ∃ y, p = 2 * y ∨ p = 2 * y + 1 := ⟨p / 2, two2 p⟩
          · rw [upb_even y (by omega), lob_even y (by omega), lob_even (upb y) (by have := upb_gt (show 0 < y by omega); omega)]
            have := ih y (by omega) (by omega)
            omega
          · rw [upb_odd, lob_odd, lob_even (y + 1) (by omega)]
            have := lob_pos (y + 1) (by omega)
            omega
      have := key p hp
      omega
theorem rch_step_ne {p z i : Nat} (hp : 0 < p) : ¬ (rch p z i ∧ (z = upb p ∧ cov p i)) := by
  rintro ⟨⟨h, h' | ⟨c, c1, c2, c3, c4⟩⟩, rfl, h2⟩
  · have := upb_gt hp
    have := h2.2
    omega
  · have := cov_uniq c p i c1 hp c3 h2 c4
    omega
theorem dot_step {n p z : Nat} {g : Nat → Int} (hp : 0 < p) : dot n (fun i => rch (p + 1) z (i + 1)) g = dot n (fun i => rch p z (i + 1)) g + (if z = upb p then dot n (fun i => rch p p (i + 1)) g else 0) := by
  rw [dot_or (A := fun i => rch p z (i + 1)) (B := fun i => z = upb p ∧ cov p (i + 1)) (fun i _ => rch_step (by omega) hp) (fun i _ => rch_step_ne hp)]
  congr 1
  by_cases c : z = upb p
  · rw [if_pos c]
    exact dot_congr (fun i _ => by rw [rch_all (by omega) (Nat.le_refl _)]; simp [c]) fun _ _ _ => rfl
  · rw [if_neg c]
    exact dot_none fun i _ h => c h.1
/-- the partial sum at x, y -/
noncomputable def FF (W H : Nat) (f : Nat → Nat → Int) (x y : Nat) : Int := dot H (fun j => cov y (j + 1)) fun j => dot W (fun i => cov x (i + 1)) fun i => f i j
/-- of the first a columns, those that y has -/
noncomputable def QQ (W H : Nat) (f : Nat → Nat → Int) (a y : Nat) : Int := dot H (fun j => cov y (j + 1)) fun j => dot W (fun i => i < a) fun i => f i j
/-- of the first a columns and b rows -/
noncomputable def PP (W H : Nat) (f : Nat → Nat → Int) (a b : Nat) : Int := dot H (fun j => j < b) fun j => dot W (fun i => i < a) fun i => f i j
theorem QQ_step {W H x y : Nat} {f : Nat → Nat → Int} (hx : 0 < x) : FF W H f x y + QQ W H f (x - lob x) y = QQ W H f x y := by
  unfold FF QQ
  rw [← dot_add]
  exact dot_congr (fun _ _ => .rfl) fun j _ _ => (dot_or (fun i _ => cov_lt hx) fun i _ => cov_lt_ne).symm
theorem PP_step {W H a y : Nat} {f : Nat → Nat → Int} (hy : 0 < y) : QQ W H f a y + PP W H f a (y - lob y) = PP W H f a y := by
  unfold QQ PP
  exact (dot_or (fun i _ => cov_lt hy) fun i _ => cov_lt_ne).symm
theorem QQ_zero {W H y : Nat} {f : Nat → Nat → Int} : QQ W H f 0 y = 0 := by
  unfold QQ
  have : ∀ m, dot m (fun j => cov y (j + 1)) (fun j => dot W (fun i => i < 0) fun i => f i j) = 0 := by
    intro m
    induction m with
    | zero => exact dot_zero _ _
    | succ m ih => rw [dot_succ, ih, dot_none (fun i _ h => by omega)]; split <;> rfl
  exact this H
theorem PP_zero {W H a : Nat} {f : Nat → Nat → Int} : PP W H f a 0 = 0 := dot_none fun i _ h => by omega
open Classical in
theorem FF_upd {W H x y a b : Nat} {f : Nat → Nat → Int} {d : Int} (ha : a < W) (hb : b < H) : FF W H (fun i j => if i = a ∧ j = b then f i j + d else f i j) x y = FF W H f x y + (if cov x (a + 1) ∧ cov y (b + 1) then d else 0) := by
  unfold FF
  have e : (fun j => dot W (fun i => cov x (i + 1)) fun i => if i = a ∧ j = b then f i j + d else f i j) = fun j => if j = b then (dot W (fun i => cov x (i + 1)) fun i => f i j) + (if cov x (a + 1) then d else 0) else (dot W (fun i => cov x (i + 1)) fun i => f i j) := by
    funext j
    by_cases c : j = b
    · rw [if_pos c, ← dot_upd ha]
      exact dot_congr (fun _ _ => .rfl) fun i _ _ => by simp [c]
    · rw [if_neg c]
      exact dot_congr (fun _ _ => .rfl) fun i _ _ => by simp [c]
  rw [e, dot_upd hb]
  congr 1
  by_cases c1 : cov y (b + 1) <;> by_cases c2 : cov x (a + 1) <;> simp [c1, c2]
theorem mul_bound {M : Int} {n m : Nat} {A B : Nat → Prop} {f : Nat → Nat → Int} (hM : 0 ≤ M) (h : ∀ i j, i < n → j < m → -M ≤ f i j ∧ f i j ≤ M) : -(M * n * m) ≤ dot m A (fun j => dot n B fun i => f i j) ∧ dot m A (fun j => dot n B fun i => f i j) ≤ M * n * m := by
  have h1 : 0 ≤ M * (n : Int) := Int.mul_nonneg hM (by omega)
  have : ∀ k, k ≤ m → -(M * n * k) ≤ dot k A (fun j => dot n B fun i => f i j) ∧ dot k A (fun j => dot n B fun i => f i j) ≤ M * n * k := fun k hk => dot_bound h1 fun j hj => dot_bound hM fun i hi => h i j hi (by omega)
  exact this m (Nat.le_refl _)
end Go.Proofs.YtlplbgbnojibmaaGreat

/-
  Partial sums by lowest bits: how a table of them comes to be.
-/
namespace Go.Proofs.YtlplbgbnojibmaaGreat
open Go.RowKit
open Sy
set_option linter.unusedVariables false
set_option linter.unusedSimpArgs false
set_option maxRecDepth 100000
set_option maxHeartbeats 4000000

/-! the lowest bit, as the program takes it -/
def lobK : Nat → Nat → Nat
  | 0, _ => 0
  | k + 1, n => if n = 0 then 0 else if n % 2 = 1 then 1 else 2 * lobK k (n / 2)
theorem lobK_eq : ∀ k n : Nat, n < 2 ^ k → lobK k n = lob n := by
  intro k
  induction k with
  | zero => intro n h; have : n = 0 := by omega
            subst this; rw [lob]; rfl
  | succ k ih =>
    intro n h
    rw [Nat.pow_succ] at h
    unfold lobK
    rw [lob]
    by_cases c : n = 0
    · rw [if_pos c, dif_pos c]
    · rw [if_neg c, dif_neg c]
      by_cases d : n % 2 = 1
      · rw [if_pos d, if_pos d]
      · rw [if_neg d, if_neg d, ih (n / 2) (by omega)]
def lowOk (n : Nat) : Bool := decide (n = 0) || (decide (bits .and .i64 (n : Int) (0 - (n : Int)) = (lobK 11 n : Nat)) && decide (bits .and .i64 (n : Int) ((n : Int) - 1) = ((n - lobK 11 n : Nat) : Int)))
theorem low_all : (List.range 1100).all lowOk = true := by kernel_rfl
theorem low_and {n : Nat} (h0 : 0 < n) (h : n < 1100) : bits .and .i64 (n : Int) (0 - (n : Int)) = (lob n : Nat) ∧ bits .and .i64 (n : Int) ((n : Int) - 1) = ((n - lob n : Nat) : Int) := by
  have := List.all_eq_true.1 low_all n (List.mem_range.2 h)
  unfold lowOk at this
  rw [lobK_eq 11 n (by omega)] at this
  simp only [Bool.or_eq_true, decide_eq_true_eq, Bool.and_eq_true] at this
  omega

/-! phase 1: the values -/
noncomputable def G1 (W : Nat) (f : Nat → Nat → Int) (i m : Nat) : Int := if 1 ≤ m % (W + 1) ∧ 1 ≤ m / (W + 1) ∧ (m / (W + 1) - 1) * W + (m % (W + 1) - 1) < i then f (m % (W + 1) - 1) (m / (W + 1) - 1) else 0
def ix (W x y : Nat) : Nat := y * (W + 1) + x
theorem ix_mod {W x y : Nat} (h : x ≤ W) : ix W x y % (W + 1) = x ∧ ix W x y / (W + 1) = y := by
  unfold ix
  constructor
  · rw [Nat.mul_comm, Nat.mul_add_mod]; exact Nat.mod_eq_of_lt (by omega)
  · rw [Nat.mul_comm, Nat.mul_add_div (by omega), Nat.div_eq_of_lt (by omega)]; omega
theorem ix_lt {W H x y : Nat} (hx : x ≤ W) (hy : y ≤ H) : ix W x y < (W + 1) * (H + 1) := by
  unfold ix
  have : y * (W + 1) ≤ H * (W + 1) := Nat.mul_le_mul_right _ hy
  have e : (W + 1) * (H + 1) = H * (W + 1) + (W + 1) := by rw [Nat.mul_comm, Nat.add_mul]; omega
  omega
theorem ix_eq {W x y m : Nat} (h : x ≤ W) : m = ix W x y ↔ m % (W + 1) = x ∧ m / (W + 1) = y := by
  constructor
  · rintro rfl; exact ix_mod h
  · rintro ⟨rfl, rfl⟩
    unfold ix
    have := Nat.div_add_mod m (W + 1)
    rw [Nat.mul_comm] at this
    omega
theorem G1_zero (W : Nat) (f : Nat → Nat → Int) (m : Nat) : G1 W f 0 m = 0 := by unfold G1; rw [if_neg (by omega)]
theorem G1_step {W i m : Nat} {f : Nat → Nat → Int} (hW : 1 ≤ W) : G1 W f (i + 1) m = if m = ix W (i % W + 1) (i / W + 1) then f (i % W) (i / W) else G1 W f i m := by
  have hlt : m % (W + 1) < W + 1 := Nat.mod_lt _ (by omega)
  have hi : i % W < W := Nat.mod_lt _ (by omega)
  by_cases c : m = ix W (i % W + 1) (i / W + 1)
  · rw [if_pos c]
    obtain ⟨e1, e2⟩ := (ix_eq (by omega)).1 c
    unfold G1
    rw [e1, e2, if_pos]
    · simp
    · refine ⟨Nat.le_add_left _ _, Nat.le_add_left _ _, ?_⟩
      have := Nat.div_add_mod i W
      rw [Nat.mul_comm] at this
      simp only [Nat.add_sub_cancel]
      rw [this]
      exact Nat.lt_succ_self i
  · rw [if_neg c]
    unfold G1
    have hne : ¬ (m % (W + 1) = i % W + 1 ∧ m / (W + 1) = i / W + 1) := fun d => c ((ix_eq (by omega)).2 d)
    generalize m % (W + 1) = X at *
    generalize m / (W + 1) = Y at *
    by_cases d : 1 ≤ X ∧ 1 ≤ Y ∧ (Y - 1) * W + (X - 1) < i
    · rw [if_pos d, if_pos (by omega)]
    · rw [if_neg d, if_neg]
      rintro ⟨d1, d2, d3⟩
      have e : (Y - 1) * W + (X - 1) = i := by omega
      refine hne ⟨?_, ?_⟩
      · rw [← e, Nat.mul_comm, Nat.mul_add_mod, Nat.mod_eq_of_lt (by omega)]; omega
      · rw [← e, Nat.mul_comm, Nat.mul_add_div (by omega), Nat.div_eq_of_lt (show X - 1 < W by omega)]; omega

/-! phase 2: along the rows -/
noncomputable def Dr (W : Nat) (f : Nat → Nat → Int) (p X Y : Nat) : Int := if Y = 0 then 0 else dot W (fun i => rch p X (i + 1)) fun i => f i (Y - 1)
noncomputable def G2 (W : Nat) (f : Nat → Nat → Int) (y x m : Nat) : Int := Dr W f (if m / (W + 1) < y then W + 1 else if m / (W + 1) = y then x else 1) (m % (W + 1)) (m / (W + 1))
theorem Dr_one {W X Y : Nat} {f : Nat → Nat → Int} (hX : X ≤ W) : Dr W f 1 X Y = if 1 ≤ X ∧ 1 ≤ Y then f (X - 1) (Y - 1) else 0 := by
  unfold Dr
  by_cases c : Y = 0
  · rw [if_pos c, if_neg (by omega)]
  · rw [if_neg c]
    by_cases d : 1 ≤ X
    · rw [if_pos ⟨d, by omega⟩, dot_one (k := X - 1) (by omega) (fun i _ => (rch_one (by omega)).trans (by omega))]
    · rw [if_neg (by omega)]
      exact dot_none fun i _ h => by have := (rch_one (by omega)).1 h; omega
theorem Dr_step {W p X Y : Nat} {f : Nat → Nat → Int} (hp : 0 < p) : Dr W f (p + 1) X Y = Dr W f p X Y + if X = upb p then Dr W f p p Y else 0 := by
  unfold Dr
  by_cases c : Y = 0
  · simp [c]
  · simp only [if_neg c]
    rw [dot_step hp]
theorem G2_start {W H m : Nat} {f : Nat → Nat → Int} (hm : m < (W + 1) * (H + 1)) : G2 W f 1 1 m = G1 W f (W * H) m := by
  have hlt : m % (W + 1) < W + 1 := Nat.mod_lt _ (by omega)
  have hY : m / (W + 1) < H + 1 := Nat.div_lt_of_lt_mul hm
  unfold G2 G1
  have e : (if m / (W + 1) < 1 then W + 1 else if m / (W + 1) = 1 then 1 else 1) = if m / (W + 1) = 0 then W + 1 else 1 := by
    generalize m / (W + 1) = Y
    by_cases c : Y = 0
    · rw [if_pos (by omega), if_pos c]
    · rw [if_neg (by omega), if_neg c]; split <;> rfl
  rw [e]
  generalize m % (W + 1) = X at *
  generalize m / (W + 1) = Y at *
  by_cases c : Y = 0
  · unfold Dr
    rw [if_pos c, if_neg (by omega)]
  · rw [if_neg c, Dr_one (by omega)]
    by_cases d : 1 ≤ X
    · rw [if_pos ⟨d, by omega⟩, if_pos]
      refine ⟨d, by omega, ?_⟩
      have : (Y - 1) * W ≤ (H - 1) * W := Nat.mul_le_mul_right _ (by omega)
      have e : W * H = (H - 1) * W + W := by
        rw [Nat.mul_comm W H]
        have : H = (H - 1) + 1 := by omega
        conv => lhs; rw [this, Nat.add_mul]
        omega
      omega
    · rw [if_neg (by omega), if_neg (by omega)]
theorem G2_next {W y m : Nat} {f : Nat → Nat → Int} : G2 W f y (W + 1) m = G2 W f (y + 1) 1 m := by
  unfold G2
  congr 1
  generalize m / (W + 1) = Y
  split <;> split <;> first | rfl | omega | skip
  all_goals (split <;> first | rfl | omega | skip)
  all_goals (split <;> first | rfl | omega | skip)
theorem G2_yes {W y x m : Nat} {f : Nat → Nat → Int} (hx : 0 < x) (hu : upb x ≤ W) : G2 W f y (x + 1) m = if m = ix W (upb x) y then G2 W f y x (ix W (upb x) y) + G2 W f y x (ix W x y) else G2 W f y x m := by
  have hxu := upb_gt hx
  obtain ⟨u1, u2⟩ := @ix_mod W (upb x) y hu
  obtain ⟨v1, v2⟩ := @ix_mod W x y (by omega)
  by_cases c : m = ix W (upb x) y
  · rw [if_pos c]
    subst c
    unfold G2
    rw [u1, u2, v1, v2, if_neg (by omega), if_pos rfl, if_neg (by omega), if_pos rfl, Dr_step hx, if_pos rfl]
  · rw [if_neg c]
    have hne : ¬ (m % (W + 1) = upb x ∧ m / (W + 1) = y) := fun d => c ((ix_eq hu).2 d)
    unfold G2
    generalize m % (W + 1) = X at *
    generalize m / (W + 1) = Y at *
    by_cases d : Y < y
    · rw [if_pos d, if_pos d]
    · rw [if_neg d, if_neg d]
      by_cases e : Y = y
      · rw [if_pos e, if_pos e, Dr_step hx, if_neg (by omega)]; omega
      · rw [if_neg e, if_neg e]
theorem G2_no {W y x m : Nat} {f : Nat → Nat → Int} (hx : 0 < x) (hu : W < upb x) : G2 W f y (x + 1) m = G2 W f y x m := by
  have hlt : m % (W + 1) < W + 1 := Nat.mod_lt _ (by omega)
  unfold G2
  generalize m % (W + 1) = X at *
  generalize m / (W + 1) = Y at *
  by_cases d : Y < y
  · rw [if_pos d, if_pos d]
  · rw [if_neg d, if_neg d]
    by_cases e : Y = y
    · rw [if_pos e, if_pos e, Dr_step hx, if_neg (by omega)]; omega
    · rw [if_neg e, if_neg e]

/-! phase 3: along the columns -/
noncomputable def Cc (W : Nat) (f : Nat → Nat → Int) (X j : Nat) : Int := dot W (fun i => cov X (i + 1)) fun i => f i j
noncomputable def Ec (W H : Nat) (f : Nat → Nat → Int) (p X Y : Nat) : Int := dot H (fun j => rch p Y (j + 1)) fun j => Cc W f X j
noncomputable def G3 (W H : Nat) (f : Nat → Nat → Int) (y x m : Nat) : Int := Ec W H f (if m % (W + 1) < x then y + 1 else y) (m % (W + 1)) (m / (W + 1))
theorem Cc_zero {W j : Nat} {f : Nat → Nat → Int} : Cc W f 0 j = 0 := dot_none fun i _ h => cov_zero h
theorem dot_null {n : Nat} {A : Nat → Prop} {g : Nat → Int} (h : ∀ i, i < n → g i = 0) : dot n A g = 0 := by
  induction n with
  | zero => exact dot_zero _ _
  | succ n ih => rw [dot_succ, ih fun i hi => h i (by omega), h n (by omega)]; split <;> rfl
theorem Ec_zero {W H p Y : Nat} {f : Nat → Nat → Int} : Ec W H f p 0 Y = 0 := dot_null fun i _ => Cc_zero
theorem Ec_step {W H p X Y : Nat} {f : Nat → Nat → Int} (hp : 0 < p) : Ec W H f (p + 1) X Y = Ec W H f p X Y + if Y = upb p then Ec W H f p X p else 0 := dot_step hp
theorem Ec_one {W H X Y : Nat} {f : Nat → Nat → Int} (hY : Y ≤ H) : Ec W H f 1 X Y = if 1 ≤ Y then Cc W f X (Y - 1) else 0 := by
  unfold Ec
  by_cases d : 1 ≤ Y
  · rw [if_pos d, dot_one (k := Y - 1) (by omega) (fun i _ => (rch_one (by omega)).trans (by omega))]
  · rw [if_neg d]
    exact dot_none fun i _ h => by have := (rch_one (by omega)).1 h; omega
theorem G3_start {W H m : Nat} {f : Nat → Nat → Int} (hm : m < (W + 1) * (H + 1)) : G3 W H f 1 1 m = G2 W f (H + 1) 1 m := by
  have hlt : m % (W + 1) < W + 1 := Nat.mod_lt _ (by omega)
  have hY : m / (W + 1) < H + 1 := Nat.div_lt_of_lt_mul hm
  unfold G3 G2
  rw [if_pos hY]
  generalize m % (W + 1) = X at *
  generalize m / (W + 1) = Y at *
  have hD : Dr W f (W + 1) X Y = if 1 ≤ Y then Cc W f X (Y - 1) else 0 := by
    unfold Dr Cc
    by_cases c : Y = 0
    · rw [if_pos c, if_neg (by omega)]
    · rw [if_neg c, if_pos (by omega)]
      exact dot_congr (fun i _ => rch_all (by omega) (by omega)) fun _ _ _ => rfl
  rw [hD]
  by_cases c : X < 1
  · have : X = 0 := by omega
    subst this
    rw [if_pos c, Ec_zero]
    split
    · exact Cc_zero.symm
    · rfl
  · rw [if_neg c, Ec_one (by omega)]
theorem G3_next {W H y m : Nat} {f : Nat → Nat → Int} : G3 W H f y (W + 1) m = G3 W H f (y + 1) 1 m := by
  have hlt : m % (W + 1) < W + 1 := Nat.mod_lt _ (by omega)
  unfold G3
  rw [if_pos hlt]
  by_cases c : m % (W + 1) < 1
  · have : m % (W + 1) = 0 := by omega
    rw [if_pos c, this, Ec_zero, Ec_zero]
  · rw [if_neg c]
theorem G3_skip {W H y m : Nat} {f : Nat → Nat → Int} (hy : 0 < y) (hu : H < upb y) (hm : m < (W + 1) * (H + 1)) : G3 W H f (y + 1) 1 m = G3 W H f y 1 m := by
  have hY : m / (W + 1) < H + 1 := Nat.div_lt_of_lt_mul hm
  unfold G3
  generalize m % (W + 1) = X at *
  generalize m / (W + 1) = Y at *
  by_cases c : X < 1
  · have : X = 0 := by omega
    subst this
    rw [if_pos c, if_pos c, Ec_zero, Ec_zero]
  · rw [if_neg c, if_neg c, Ec_step hy, if_neg (by omega)]; omega
theorem G3_yes {W H y x m : Nat} {f : Nat → Nat → Int} (hx : 1 ≤ x) (hxW : x ≤ W) (hy : 0 < y) : G3 W H f y (x + 1) m = if m = ix W x (upb y) then G3 W H f y x (ix W x (upb y)) + G3 W H f y x (ix W x y) else G3 W H f y x m := by
  obtain ⟨u1, u2⟩ := @ix_mod W x (upb y) hxW
  obtain ⟨v1, v2⟩ := @ix_mod W x y hxW
  by_cases c : m = ix W x (upb y)
  · rw [if_pos c]
    subst c
    unfold G3
    rw [u1, u2, v1, v2, if_pos (by omega), if_neg (by omega), Ec_step hy, if_pos rfl]
  · rw [if_neg c]
    have hne : ¬ (m % (W + 1) = x ∧ m / (W + 1) = upb y) := fun d => c ((ix_eq hxW).2 d)
    unfold G3
    generalize m % (W + 1) = X at *
    generalize m / (W + 1) = Y at *
    by_cases d : X < x
    · rw [if_pos d, if_pos (by omega)]
    · rw [if_neg d]
      by_cases e : X = x
      · rw [if_pos (by omega), Ec_step hy, if_neg (by omega)]; omega
      · rw [if_neg (by omega)]
theorem G3_end {W H m : Nat} {f : Nat → Nat → Int} (hm : m < (W + 1) * (H + 1)) : G3 W H f (H + 1) 1 m = FF W H f (m % (W + 1)) (m / (W + 1)) := by
  have hY : m / (W + 1) < H + 1 := Nat.div_lt_of_lt_mul hm
  unfold G3
  generalize m % (W + 1) = X at *
  generalize m / (W + 1) = Y at *
  have hE : Ec W H f (H + 1) X Y = FF W H f X Y := dot_congr (fun i _ => rch_all (by omega) (by omega)) fun _ _ _ => rfl
  by_cases c : X < 1
  · have : X = 0 := by omega
    subst this
    rw [if_pos c, Ec_zero, ← hE, Ec_zero]
  · rw [if_neg c, hE]

/-! bounds -/
theorem Cc_bound {W j X : Nat} {f : Nat → Nat → Int} {M : Int} (hM : 0 ≤ M) (h : ∀ i, i < W → -M ≤ f i j ∧ f i j ≤ M) : -(M * W) ≤ Cc W f X j ∧ Cc W f X j ≤ M * W := dot_bound hM h
theorem far_bound {W H : Nat} (h1 : W ≤ 1024) (h2 : H ≤ 1024) : (1099511627776 : Int) * W * H ≤ 1152921504606846976 := by
  have e1 : (1099511627776 : Int) * W ≤ 1099511627776 * 1024 := Int.mul_le_mul_of_nonneg_left (by omega) (by omega)
  have e2 : (1099511627776 : Int) * W * H ≤ 1099511627776 * 1024 * H := Int.mul_le_mul_of_nonneg_right e1 (by omega)
  have e3 : (1099511627776 * 1024 : Int) * H ≤ 1099511627776 * 1024 * 1024 := Int.mul_le_mul_of_nonneg_left (by omega) (by omega)
  omega
/-- numbers that are not too far from 0 -/
def Far (W H : Nat) (f : Nat → Nat → Int) : Prop := ∀ i j, i < W → j < H → -1099511627776 ≤ f i j ∧ f i j ≤ 1099511627776
theorem FF_bound {W H x y : Nat} {f : Nat → Nat → Int} (h1 : W ≤ 1024) (h2 : H ≤ 1024) (h : Far W H f) : -1152921504606846976 ≤ FF W H f x y ∧ FF W H f x y ≤ 1152921504606846976 := by
  have := mul_bound (A := fun j => cov y (j + 1)) (B := fun i => cov x (i + 1)) (by omega) h
  have := far_bound h1 h2
  unfold FF
  omega
theorem QQ_bound {W H a y : Nat} {f : Nat → Nat → Int} (h1 : W ≤ 1024) (h2 : H ≤ 1024) (h : Far W H f) : -1152921504606846976 ≤ QQ W H f a y ∧ QQ W H f a y ≤ 1152921504606846976 := by
  have := mul_bound (A := fun j => cov y (j + 1)) (B := fun i => i < a) (by omega) h
  have := far_bound h1 h2
  unfold QQ
  omega
theorem PP_bound {W H a b : Nat} {f : Nat → Nat → Int} (h1 : W ≤ 1024) (h2 : H ≤ 1024) (h : Far W H f) : -1152921504606846976 ≤ PP W H f a b ∧ PP W H f a b ≤ 1152921504606846976 := by
  have := mul_bound (A := fun j => j < b) (B := fun i => i < a) (by omega) h
  have := far_bound h1 h2
  unfold PP
  omega
theorem row_far {W : Nat} (h1 : W ≤ 1024) : (1099511627776 : Int) * W ≤ 1152921504606846976 := by
  have e1 : (1099511627776 : Int) * W ≤ 1099511627776 * 1024 := Int.mul_le_mul_of_nonneg_left (by omega) (by omega)
  omega
theorem G2_bound {W H y x m : Nat} {f : Nat → Nat → Int} (h1 : W ≤ 1024) (h : Far W H f) (hm : m < (W + 1) * (H + 1)) : -1152921504606846976 ≤ G2 W f y x m ∧ G2 W f y x m ≤ 1152921504606846976 := by
  have hY : m / (W + 1) < H + 1 := Nat.div_lt_of_lt_mul hm
  have := row_far h1
  unfold G2 Dr
  generalize m / (W + 1) = Y at *
  split
  · omega
  · have := dot_bound (n := W) (A := fun i => rch (if Y < y then W + 1 else if Y = y then x else 1) (m % (W + 1)) (i + 1)) (g := fun i => f i (Y - 1)) (M := 1099511627776) (by omega) fun i hi => h i _ hi (by omega)
    omega
theorem G3_bound {W H y x m : Nat} {f : Nat → Nat → Int} (h1 : W ≤ 1024) (h2 : H ≤ 1024) (h : Far W H f) : -1152921504606846976 ≤ G3 W H f y x m ∧ G3 W H f y x m ≤ 1152921504606846976 := by
  have := far_bound h1 h2
  unfold G3 Ec Cc
  have := mul_bound (A := fun j => rch (if m % (W + 1) < x then y + 1 else y) (m / (W + 1)) (j + 1)) (B := fun i => cov (m % (W + 1)) (i + 1)) (by omega) h
  omega

/-! a rectangle's sum -/
noncomputable def RS (W H : Nat) (f : Nat → Nat → Int) (x0 y0 x1 y1 : Nat) : Int := dot H (fun j => y0 ≤ j ∧ j ≤ y1) fun j => dot W (fun i => x0 ≤ i ∧ i ≤ x1) fun i => f i j
theorem RS_PP {W H x0 y0 x1 y1 : Nat} {f : Nat → Nat → Int} (hx : x0 ≤ x1) (hy : y0 ≤ y1) : PP W H f (x1 + 1) (y1 + 1) - PP W H f x0 (y1 + 1) - PP W H f (x1 + 1) y0 + PP W H f x0 y0 = RS W H f x0 y0 x1 y1 := by
  have hr : ∀ (g : Nat → Int), dot W (fun i => i < x1 + 1) g = dot W (fun i => i < x0) g + dot W (fun i => x0 ≤ i ∧ i ≤ x1) g := fun g => dot_or (fun i _ => by omega) fun i _ => by omega
  have hc : ∀ (g : Nat → Int), dot H (fun j => j < y1 + 1) g = dot H (fun j => j < y0) g + dot H (fun j => y0 ≤ j ∧ j ≤ y1) g := fun g => dot_or (fun i _ => by omega) fun i _ => by omega
  unfold PP RS
  simp only [hr, hc, dot_add]
  omega
theorem RS_one {W H x y : Nat} {f : Nat → Nat → Int} (hx : x < W) (hy : y < H) : RS W H f x y x y = f x y := by
  unfold RS
  rw [dot_one hy (fun j _ => by omega), dot_one hx (fun i _ => by omega)]
end Go.Proofs.YtlplbgbnojibmaaGreat

/-
  fen: New, at, Size, corner, Sum, At.
-/
namespace Go.Proofs.YtlplbgbnojibmaaGreat
open Go.RowKit
open Sy
set_option linter.unusedVariables false
set_option linter.unusedSimpArgs false
set_option maxRecDepth 100000
set_option maxHeartbeats 4000000

abbrev fenN (W H : Nat) : Nat := (W + 1) * (H + 1)
abbrev fenHd (fb sb W H N : Nat) : HP := blkH fb 133 #[.int .i64 (W : Int), .int .i64 (H : Int), .slice (some ⟨sb, 0, none⟩) N N]
abbrev fenRw (sb N : Nat) (g : Nat → Int) : HP := rowH (.slice (some ⟨sb, 0, none⟩) N N) N 2 1 (ints (cellsL N g))
def fenP (fb W H N : Nat) (g : Nat → Int) (sb : Nat) : List HP := [fenHd fb sb W H N, fenRw sb N g]
def fenS (fb W H N : Nat) (g : Nat → Int) : HP := boxH (fenP fb W H N g)
/-- the partial sums of f -/
noncomputable def fenG (W H : Nat) (f : Nat → Nat → Int) (m : Nat) : Int := FF W H f (m % (W + 1)) (m / (W + 1))
noncomputable def fenH (fb W H : Nat) (f : Nat → Nat → Int) : HP := fenS fb W H (fenN W H) (fenG W H f)
theorem ints_cellsL {N k : Nat} {g : Nat → Int} (h : k < N) : (ints (cellsL N g))[k]? = some (.int .i64 (g k)) := by simp [ints, cellsL, h]
theorem ints_len (N : Nat) (g : Nat → Int) : (ints (cellsL N g)).length = N := by simp [ints, cellsL]
theorem cellsL_put {N k : Nat} {g g' : Nat → Int} {v : Int} (h : k < N) (e : g' k = v) (e2 : ∀ m, m < N → m ≠ k → g' m = g m) : putL (ints (cellsL N g)) k [.int .i64 v] = ints (cellsL N g') := by
  apply List.ext_getElem?
  intro i
  rw [putL_get (by rw [ints_len]; simp; omega)]
  by_cases c : i = k
  · subst c
    rw [if_pos (by simp)]
    simp [ints_cellsL h, e]
  · rw [if_neg (by simp; omega)]
    by_cases d : i < N
    · rw [ints_cellsL d, ints_cellsL d, e2 i d c]
    · rw [List.getElem?_eq_none (by rw [ints_len]; omega), List.getElem?_eq_none (by rw [ints_len]; omega)]
theorem fenRw_to {sb N : Nat} {g g' : Nat → Int} (e : ∀ m, m < N → g m = g' m) : fenRw sb N g = fenRw sb N g' := by
  unfold fenRw
  rw [cellsL_eq.2 e]

structure FenAt (w : World) (fb sb W H N : Nat) (g : Nat → Int) : Prop where
  wd : w.cell? ⟨fb, 0, none⟩ = some (.int .i64 (W : Int))
  ht : w.cell? ⟨fb, 1, none⟩ = some (.int .i64 (H : Int))
  sl : w.cell? ⟨fb, 2, none⟩ = some (.slice (some ⟨sb, 0, none⟩) N N)
  ce : ∀ k, k < N → w.cell? ⟨sb, k, none⟩ = some (.int .i64 (g k))
theorem fen_at {w : World} {fb sb W H N : Nat} {g : Nat → Int} (h1 : Sat (fenHd fb sb W H N) w) (h2 : Sat (fenRw sb N g) w) : FenAt w fb sb W H N g :=
  ⟨(blk_sat h1).cell 0, (blk_sat h1).cell 1, (blk_sat h1).cell 2, fun k hk => row_at h2 (by omega) (ints_cellsL hk)⟩
theorem fen_open {w : World} {fb W H N : Nat} {g : Nat → Int} (s : Sat (fenS fb W H N g) w) : ∃ sb, FenAt w fb sb W H N g := by
  obtain ⟨sb, s⟩ := Sat.unbox s
  exact ⟨sb, fen_at (s.in_ 0 rfl) (s.in_ 1 rfl)⟩
theorem FenAt.up {w w' : World} {fb sb W H N : Nat} {g : Nat → Int} (h : FenAt w fb sb W H N g) (s : Sat (was w) w') : FenAt w' fb sb W H N g :=
  ⟨was_cell s h.wd, was_cell s h.ht, was_cell s h.sl, fun k hk => was_cell s (h.ce k hk)⟩

theorem sFat {R : HP} {fb W : Nat} (x y : Nat) (hW : W ≤ 1024) (hx : x ≤ 1024) (hy : y ≤ 1024) (hR : ∀ w, Sat R w → w.cell? ⟨fb, 0, none⟩ = some (.int .i64 (W : Int))) :
    PureR Tryz.prog R 62 [.pointer (some ⟨fb, 0, none⟩), .int .i64 x, .int .i64 y] (.int .i64 (ix W x y : Nat)) := by
  have hm : y * (W + 1) ≤ 1024 * 1025 := Nat.mul_le_mul hy (by omega)
  have e : (y : Int) * ((W : Int) + 1) = ((y * (W + 1) : Nat) : Int) := by simp
  have e2 : ((ix W x y : Nat) : Int) = ((y * (W + 1) : Nat) : Int) + (x : Int) := by unfold ix; simp
  refine fn_of_run0 false Tryz.func62 rfl hmix rfl fun w0 => ?_
  conv => whnf
  refine ⟨trivial, LoadAt.cell (.int .i64 (W : Int)) rfl rfl (fun w hw => hR w hw) ?_⟩
  conv => whnf
  rw [e]
  refine ⟨⟨⟨⟨trivial, by unfold rng; omega⟩, by unfold rng; omega⟩, by unfold rng; omega⟩, fin_pure rfl ?_⟩
  rw [e2]
  rfl
theorem sFCorner {R : HP} {fb W H a b : Nat} {f : Nat → Nat → Int} (hf : Far W H f) (hW : W ≤ 1024) (hH : H ≤ 1024) (ha : a ≤ W) (hb : b ≤ H) (hR : ∀ w, Sat R w → Sat (fenH fb W H f) w) :
    PureR Tryz.prog R 68 [.pointer (some ⟨fb, 0, none⟩), .int .i64 a, .int .i64 b] (.int .i64 (PP W H f a b)) := by
  refine PureR.fix fun w hs => ?_
  obtain ⟨sb, hF⟩ := fen_open (hR w hs)
  have hN : fenN W H ≤ 1025 * 1025 := Nat.mul_le_mul (by omega) (by omega)
  have hcell : ∀ x y, x ≤ W → y ≤ H → ix W x y < fenN W H ∧ ∀ w', Sat (was w) w' → w'.cell? ⟨sb, ix W x y, none⟩ = some (.int .i64 (FF W H f x y)) := fun x y hx hy => ⟨ix_lt hx hy, fun w' s => by
    have := (hF.up s).ce _ (ix_lt hx hy)
    unfold fenG at this
    rwa [(ix_mod hx).1, (ix_mod hx).2] at this⟩
  have cw := fun w' s => (hF.up (w' := w') s).wd
  have cs := fun w' s => (hF.up (w' := w') s).sl
  clear hF hR hs
  have bT := fun x y => FF_bound (x := x) (y := y) hW hH hf
  have bQ := fun x y => QQ_bound (a := x) (y := y) hW hH hf
  have bP := fun x y => PP_bound (a := x) (b := y) hW hH hf
  have sQ := fun x y (h : 0 < x) => @QQ_step W H x y f h
  have sP := fun y (h : 0 < y) => @PP_step W H a y f h
  have zQ := fun y => @QQ_zero W H y f
  have zP : PP W H f a 0 = 0 := PP_zero
  generalize FF W H f = T at *
  generalize QQ W H f = Q at *
  generalize PP W H f = P at *
  generalize fenN W H = N at *
  refine fn_of_run0 false Tryz.func68 rfl hmix rfl fun w0 => ?_
  conv => whnf
  refine ⟨trivial, LoopAt.keep (α := Nat) [0, 1] (fun y => [(7, .v (.int .i64 (P a b - P a y))), (8, .v (.int .i64 (y : Int)))]) (fun y => y ≤ b) (fun y => y) b (Nat.le_refl _) rfl ⟨⟨by show some _ = some _; rw [Int.sub_self], rfl⟩, ⟨rfl, rfl⟩, trivial⟩ ⟨⟨rfl, rfl⟩, ⟨rfl, rfl⟩, trivial⟩ trivial ?_⟩
  intro y hy
  conv => whnf
  refine ⟨fun h => ?_, fun h => ?_⟩
  · have hy0 : 0 < y := by simpa using h
    have ly := low_and hy0 (by omega)
    conv => whnf
    refine ⟨trivial, LoopAt.keep (α := Nat) [0, 1, 8] (fun x => [(7, .v (.int .i64 (P a b - P a y + (Q a y - Q x y)))), (9, .v (.int .i64 (x : Int)))]) (fun x => x ≤ a) (fun x => x) a (Nat.le_refl _) rfl ⟨⟨by show some _ = some _; rw [Int.sub_self, Int.add_zero], rfl⟩, ⟨rfl, rfl⟩, trivial⟩ ⟨⟨rfl, rfl⟩, ⟨rfl, rfl⟩, ⟨rfl, rfl⟩, trivial⟩ trivial ?_⟩
    intro x hx
    conv => whnf
    refine ⟨fun h => ?_, fun h => ?_⟩
    · have hx0 : 0 < x := by simpa using h
      have lx := low_and hx0 (by omega)
      obtain ⟨hi, hc⟩ := hcell x y (by omega) (by omega)
      have b1 := bT x y
      have b2 := bQ a y
      have b3 := bQ x y
      have b4 := bP a b
      have b5 := bP a y
      have s1 := sQ x y hx0
      conv => whnf
      refine ⟨trivial, RegAt.quiet hmix (by kernel_rfl) ?_⟩
      conv => whnf
      refine ⟨trivial, LoadAt.cell (.slice (some ⟨sb, 0, none⟩) N N) rfl rfl (fun w hw => cs w hw) ?_⟩
      conv => whnf
      refine ⟨trivial, CallQ.pure (fun R' hR' => sFat x y hW (by omega) (by omega) (fun w hw => cw w (hR' w hw))) ?_⟩
      conv => whnf
      refine ⟨⟨trivial, by omega⟩, LoadAt.cell (.int .i64 (T x y)) rfl rfl (fun w hw => by rw [Int.toNat_natCast]; simpa using hc w hw) ?_⟩
      conv => whnf
      refine ⟨⟨trivial, by unfold rng; omega⟩, ?_⟩
      conv => whnf
      refine ⟨⟨trivial, by unfold rng; omega⟩, Next.keep (x - lob x) (by omega) (by have := lob_pos x hx0; omega) ⟨⟨?_, rfl⟩, ⟨?_, rfl⟩, trivial⟩ ⟨⟨rfl, rfl⟩, ⟨rfl, rfl⟩, ⟨rfl, rfl⟩, trivial⟩ trivial rfl rfl rfl⟩
      · show some _ = some _
        congr 3
        omega
      · show some _ = some _
        rw [lx.2]
    · have hx0 : x = 0 := by simp at h; omega
      subst hx0
      conv => whnf
      refine ⟨⟨trivial, by unfold rng; omega⟩, Next.keep (y - lob y) (by omega) (by have := lob_pos y hy0; omega) ⟨⟨?_, rfl⟩, ⟨?_, rfl⟩, trivial⟩ ⟨⟨rfl, rfl⟩, ⟨rfl, rfl⟩, trivial⟩ trivial rfl rfl rfl⟩
      · show some _ = some _
        congr 3
        have := sP y hy0
        have := zQ y
        omega
      · show some _ = some _
        rw [ly.2]
  · have hy0 : y = 0 := by simp at h; omega
    subst hy0
    conv => whnf
    refine ⟨trivial, fin_pure rfl ?_⟩
    show Value.int .i64 (P a b - P a 0) = _
    rw [zP, Int.sub_zero]
theorem pWithin (x0 y0 x1 y1 : Int) (a b : Nat) (ha : a ≤ 9223372036854775807) (hb : b ≤ 9223372036854775807) (R : HP) : PureR Tryz.prog R 59 [rectV x0 y0 x1 y1, .int .i64 a, .int .i64 b] (.int .i64 (withinZ x0 y0 x1 y1 a b)) :=
  PureR.of_below fun w _ => (Within_any x0 y0 x1 y1 a b w (by omega) (by omega) (by omega) (by omega)).mono fun e w' ⟨h1, h2⟩ => ⟨h1, h2⟩
theorem sFSumBad {R : HP} {fb W H N : Nat} {g : Nat → Int} {x0 y0 x1 y1 : Int} (hW : W ≤ 1024) (hH : H ≤ 1024) (hb : withinZ x0 y0 x1 y1 W H ≠ 0) (hR : ∀ w, Sat R w → Sat (fenS fb W H N g) w) :
    PureR Tryz.prog R 34 [.pointer (some ⟨fb, 0, none⟩), rectV x0 y0 x1 y1] (.tuple #[.int .i64 0, .int .i64 (withinZ x0 y0 x1 y1 W H)]) := by
  refine PureR.fix fun w hs => ?_
  obtain ⟨sb, hF⟩ := fen_open (hR w hs)
  refine fn_of_run0 false Tryz.func34 rfl hmix rfl fun w0 => ?_
  conv => whnf
  refine ⟨trivial, RegAt.quiet hmix (by kernel_rfl) ?_⟩
  conv => whnf
  refine ⟨trivial, LoadAt.cell (.int .i64 (W : Int)) rfl rfl (fun w hw => (hF.up hw).wd) ?_⟩
  conv => whnf
  refine ⟨trivial, LoadAt.cell (.int .i64 (H : Int)) rfl rfl (fun w hw => (hF.up hw).ht) ?_⟩
  conv => whnf
  refine ⟨trivial, CallQ.pure (fun R' hR' => pWithin x0 y0 x1 y1 W H (by omega) (by omega) R') ?_⟩
  conv => whnf
  refine ⟨trivial, ?_⟩
  conv => whnf
  refine iff_t (by simp [hb]) ?_
  conv => whnf
  exact ⟨trivial, fin_pure rfl rfl⟩
theorem sFSum {R : HP} {fb W H x0 y0 x1 y1 : Nat} {f : Nat → Nat → Int} (hf : Far W H f) (hW : W ≤ 1024) (hH : H ≤ 1024) (r2 : x0 ≤ x1) (r3 : x1 < W) (r5 : y0 ≤ y1) (r6 : y1 < H) (hR : ∀ w, Sat R w → Sat (fenH fb W H f) w) :
    PureR Tryz.prog R 34 [.pointer (some ⟨fb, 0, none⟩), rectV x0 y0 x1 y1] (.tuple #[.int .i64 (RS W H f x0 y0 x1 y1), .int .i64 0]) := by
  refine PureR.fix fun w hs => ?_
  obtain ⟨sb, hF⟩ := fen_open (hR w hs)
  have hS : ∀ w', Sat (was w) w' → Sat (fenH fb W H f) w' := fun w' s => by
    obtain ⟨h, e1, e2⟩ := hR w hs
    exact ⟨h, fun i o e => was_ext s (e1 i o e), e2⟩
  have hwi : withinZ x0 y0 x1 y1 W H = 0 := within_of ⟨by omega, by omega, by omega, by omega⟩ (by omega) (by omega) (by omega) (by omega) (by omega) (by omega)
  have bP := fun x y => PP_bound (a := x) (b := y) hW hH hf
  have hcor := fun (a b : Nat) (ha : a ≤ W) (hb : b ≤ H) (R' : HP) (hR' : ∀ w, Sat R' w → Sat (fenH fb W H f) w) => sFCorner hf hW hH ha hb hR'
  have hRS := @RS_PP W H x0 y0 x1 y1 f r2 r5
  generalize PP W H f = P at *
  generalize RS W H f x0 y0 x1 y1 = S at *
  have b1 := bP (x1 + 1) (y1 + 1)
  have b2 := bP x0 (y1 + 1)
  have b3 := bP (x1 + 1) y0
  have b4 := bP x0 y0
  have e1 : (x1 : Int) + 1 = ((x1 + 1 : Nat) : Int) := by simp
  have e2 : (y1 : Int) + 1 = ((y1 + 1 : Nat) : Int) := by simp
  refine fn_of_run0 false Tryz.func34 rfl hmix rfl fun w0 => ?_
  conv => whnf
  refine ⟨trivial, RegAt.quiet hmix (by kernel_rfl) ?_⟩
  conv => whnf
  refine ⟨trivial, LoadAt.cell (.int .i64 (W : Int)) rfl rfl (fun w hw => (hF.up hw).wd) ?_⟩
  conv => whnf
  refine ⟨trivial, LoadAt.cell (.int .i64 (H : Int)) rfl rfl (fun w hw => (hF.up hw).ht) ?_⟩
  conv => whnf
  refine ⟨trivial, CallQ.pure (fun R' hR' => pWithin x0 y0 x1 y1 W H (by omega) (by omega) R') ?_⟩
  conv => whnf
  refine ⟨trivial, ?_⟩
  conv => whnf
  rw [hwi]
  refine iff_f (by decide) ?_
  conv => whnf
  refine ⟨trivial, RegAt.quiet hmix (by kernel_rfl) ?_⟩
  conv => whnf
  refine ⟨⟨⟨trivial, by unfold rng; omega⟩, by unfold rng; omega⟩, ?_⟩
  conv => whnf
  refine ⟨trivial, RegAt.quiet hmix (by kernel_rfl) ?_⟩
  conv => whnf
  rw [e1, e2]
  refine ⟨trivial, CallQ.pure (fun R' hR' => hcor (x1 + 1) (y1 + 1) (by omega) (by omega) R' fun w s => hS w (hR' w s)) ?_⟩
  conv => whnf
  refine ⟨trivial, CallQ.pure (fun R' hR' => hcor x0 (y1 + 1) (by omega) (by omega) R' fun w s => hS w (hR' w s)) ?_⟩
  conv => whnf
  refine ⟨⟨trivial, by unfold rng; omega⟩, CallQ.pure (fun R' hR' => hcor (x1 + 1) y0 (by omega) (by omega) R' fun w s => hS w (hR' w s)) ?_⟩
  conv => whnf
  refine ⟨⟨trivial, by unfold rng; omega⟩, CallQ.pure (fun R' hR' => hcor x0 y0 (by omega) (by omega) R' fun w s => hS w (hR' w s)) ?_⟩
  conv => whnf
  refine ⟨⟨trivial, by unfold rng; omega⟩, ?_⟩
  conv => whnf
  refine ⟨trivial, fin_pure rfl ?_⟩
  show Value.tuple #[.int .i64 (P (x1 + 1) (y1 + 1) - P x0 (y1 + 1) - P (x1 + 1) y0 + P x0 y0), .int .i64 0] = _
  rw [hRS]
theorem sFSumNil (x0 y0 x1 y1 : Int) (R : HP) : PureR Tryz.prog R 34 [.pointer none, rectV x0 y0 x1 y1] (.tuple #[.int .i64 0, .int .i64 1]) := by
  refine fn_of_run0 false Tryz.func34 rfl hmix rfl fun w0 => ?_
  conv => whnf
  exact ⟨trivial, fin_pure rfl rfl⟩
theorem sFAt {R : HP} {fb W H x y : Nat} {f : Nat → Nat → Int} (hf : Far W H f) (hW : W ≤ 1024) (hH : H ≤ 1024) (hx : x < W) (hy : y < H) (hR : ∀ w, Sat R w → Sat (fenH fb W H f) w) :
    PureR Tryz.prog R 49 [.pointer (some ⟨fb, 0, none⟩), cellV x y] (.tuple #[.int .i64 (f x y), .int .i64 0]) := by
  have hs := fun (R' : HP) (hR' : ∀ w, Sat R' w → Sat (fenH fb W H f) w) => sFSum hf hW hH (Nat.le_refl x) hx (Nat.le_refl y) hy hR'
  rw [RS_one hx hy] at hs
  refine fn_of_run0 false Tryz.func49 rfl hmix rfl fun w0 => ?_
  conv => whnf
  refine ⟨trivial, CallAt.pure (fun R' hR' => hs R' fun w s => hR w (hR' w s)) ?_⟩
  conv => whnf
  exact ⟨trivial, fin_pure rfl rfl⟩
theorem sFNew {R : HP} {W H : Nat} (hW : 1 ≤ W ∧ W ≤ 1024) (hH : 1 ≤ H ∧ H ≤ 1024) :
    FnR Tryz.prog R 61 [.int .i64 W, .int .i64 H] [] fun r hs => ∃ fb sb, r = .tuple #[.pointer (some ⟨fb, 0, none⟩), .int .i64 0] ∧ hs = fenP fb W H (fenN W H) (fun _ => 0) sb := by
  have hN : fenN W H ≤ 1025 * 1025 := Nat.mul_le_mul (by omega) (by omega)
  have hwi : withinZ 0 0 0 0 W H = 0 := within_of ⟨by omega, by omega, by omega, by omega⟩ (by omega) (by omega) (by omega) (by omega) (by omega) (by omega)
  have e : ((W : Int) + 1) * ((H : Int) + 1) = ((fenN W H : Nat) : Int) := by simp
  have hz : (madeCells (Value.int .i64 0).cells (fenN W H * 1)).toList = ints (cellsL (fenN W H) fun _ => 0) := by
    rw [made_i64]
    apply List.ext_getElem?
    intro k
    by_cases c : k < fenN W H
    · rw [ints_cellsL c]; simp [List.getElem?_replicate, c]
    · have h1 : (ints (cellsL (fenN W H) fun _ => 0))[k]? = none := List.getElem?_eq_none (by rw [ints_len]; omega)
      rw [h1]; simp [List.getElem?_replicate, c]
  generalize fenN W H = N at *
  refine fn_of_run0 false Tryz.func61 rfl hmix rfl fun w0 => ?_
  conv => whnf
  refine ⟨trivial, CallAt.pure (fun R' hR' => pWithin 0 0 0 0 W H (by omega) (by omega) R') ?_⟩
  conv => whnf
  rw [hwi]
  refine iff_f (by decide) ?_
  conv => whnf
  rw [e]
  refine ⟨⟨⟨⟨trivial, by unfold rng; omega⟩, by unfold rng; omega⟩, by unfold rng; omega⟩, OpAt.make N 1 _ rfl rfl rfl rfl rfl rfl rfl rfl hz (by show 8 * N ≤ _; omega) (by simp only [maxLen]; omega) fun sb => ?_⟩
  conv => whnf
  intro fb _
  conv => whnf
  exact ⟨trivial, .mk _ (fun w s => s) ⟨fb, sb, rfl, rfl⟩⟩
end Go.Proofs.YtlplbgbnojibmaaGreat

/-
  fen: Add, Of.
-/
namespace Go.Proofs.YtlplbgbnojibmaaGreat
open Go.RowKit
open Sy
set_option linter.unusedVariables false
set_option linter.unusedSimpArgs false
set_option maxRecDepth 100000
set_option maxHeartbeats 4000000

theorem ite_iff {p q : Prop} {_ : Decidable p} {_ : Decidable q} {a b : Int} (h : p ↔ q) : (if p then a else b) = if q then a else b := by
  by_cases c : p
  · rw [if_pos c, if_pos (h.1 c)]
  · rw [if_neg c, if_neg (fun d => c (h.2 d))]
theorem cov_next {p i : Nat} (hi : 0 < i) (hp : 0 < p) (h : cov p i) : cov (upb p) i := ((rch_step hi hp).2 (.inr ⟨rfl, h⟩)).1
open Classical in
/-- added so far -/
noncomputable def addG (W H : Nat) (f : Nat → Nat → Int) (a b : Nat) (d : Int) (y x m : Nat) : Int := fenG W H f m + if (cov (m % (W + 1)) (a + 1) ∧ cov (m / (W + 1)) (b + 1)) ∧ (¬ cov (m / (W + 1)) y ∨ (m / (W + 1) = y ∧ ¬ cov (m % (W + 1)) x)) then d else 0
def plusF (a b : Nat) (d : Int) (f : Nat → Nat → Int) (i j : Nat) : Int := if i = a ∧ j = b then f i j + d else f i j
theorem addG_start {W H a b m : Nat} {f : Nat → Nat → Int} {d : Int} : addG W H f a b d (b + 1) (a + 1) m = fenG W H f m := by
  unfold addG
  rw [if_neg]
  · omega
  · rintro ⟨⟨h1, h2⟩, h3 | ⟨h3, h4⟩⟩
    · exact h3 h2
    · exact h4 h1
theorem addG_step {W H a b y x m : Nat} {f : Nat → Nat → Int} {d : Int} (hx : x ≤ W) (hx0 : 0 < x) (hy0 : 0 < y) (cx : cov x (a + 1)) (cy : cov y (b + 1)) : addG W H f a b d y (upb x) m = if m = ix W x y then addG W H f a b d y x (ix W x y) + d else addG W H f a b d y x m := by
  by_cases c : m = ix W x y
  · rw [if_pos c]
    subst c
    unfold addG
    rw [(ix_mod hx).1, (ix_mod hx).2, if_pos ⟨⟨cx, cy⟩, .inr ⟨rfl, cov_upb_ne hx0⟩⟩, if_neg]
    · omega
    · rintro ⟨_, h | ⟨_, h⟩⟩
      · exact h (cov_self hy0)
      · exact h (cov_self hx0)
  · rw [if_neg c]
    have hne : ¬ (m % (W + 1) = x ∧ m / (W + 1) = y) := fun e => c ((ix_eq hx).2 e)
    unfold addG
    have key : ((m / (W + 1) = y ∧ ¬ cov (m % (W + 1)) (upb x)) ↔ (m / (W + 1) = y ∧ ¬ cov (m % (W + 1)) x)) := by
      constructor
      · rintro ⟨h1, h2⟩
        refine ⟨h1, fun h => ?_⟩
        rcases (cov_iff _ _ hx0).1 h with h | h
        · exact hne ⟨h, h1⟩
        · exact h2 h
      · rintro ⟨h1, h2⟩
        exact ⟨h1, fun h => h2 ((cov_iff _ _ hx0).2 (.inr h))⟩
    exact congrArg (fenG W H f m + ·) (ite_iff (and_congr_right fun _ => or_congr Iff.rfl key))
theorem addG_next {W H a b y x m : Nat} {f : Nat → Nat → Int} {d : Int} (hx : W < x) (hy0 : 0 < y) (cy : cov y (b + 1)) : addG W H f a b d y x m = addG W H f a b d (upb y) (a + 1) m := by
  have hlt : m % (W + 1) < W + 1 := Nat.mod_lt _ (by omega)
  have hn : ¬ cov (m % (W + 1)) x := fun h => by have := h.2; omega
  unfold addG
  have key : ((cov (m % (W + 1)) (a + 1) ∧ cov (m / (W + 1)) (b + 1)) ∧ (¬ cov (m / (W + 1)) y ∨ (m / (W + 1) = y ∧ ¬ cov (m % (W + 1)) x))) ↔ ((cov (m % (W + 1)) (a + 1) ∧ cov (m / (W + 1)) (b + 1)) ∧ (¬ cov (m / (W + 1)) (upb y) ∨ (m / (W + 1) = upb y ∧ ¬ cov (m % (W + 1)) (a + 1)))) := by
    refine and_congr_right fun hc => ⟨?_, ?_⟩
    · rintro (h | ⟨h, _⟩)
      · exact .inl fun e => h ((cov_iff _ _ hy0).2 (.inr e))
      · exact .inl fun e => by rw [h] at e; exact cov_upb_ne hy0 e
    · rintro (h | ⟨_, h⟩)
      · by_cases e : m / (W + 1) = y
        · exact .inr ⟨e, hn⟩
        · refine .inl fun e2 => ?_
          rcases (cov_iff _ _ hy0).1 e2 with e3 | e3
          · exact e e3
          · exact h e3
      · exact absurd hc.1 h
  exact congrArg (fenG W H f m + ·) (ite_iff key)
theorem addG_end {W H a b y m : Nat} {f : Nat → Nat → Int} {d : Int} (ha : a < W) (hb : b < H) (hy : H < y) (hm : m < (W + 1) * (H + 1)) : addG W H f a b d y (a + 1) m = fenG W H (plusF a b d f) m := by
  have hY : m / (W + 1) < H + 1 := Nat.div_lt_of_lt_mul hm
  have hn : ¬ cov (m / (W + 1)) y := fun h => by have := h.2; generalize m / (W + 1) = Y at *; omega
  unfold addG fenG plusF
  rw [FF_upd ha hb]
  exact congrArg (FF W H f (m % (W + 1)) (m / (W + 1)) + ·) (ite_iff ⟨fun h => h.1, fun h => ⟨h, .inl hn⟩⟩)
theorem addG_bound {W H a b y x m : Nat} {f : Nat → Nat → Int} {d : Int} (h1 : W ≤ 1024) (h2 : H ≤ 1024) (h : Far W H f) (hd : -2199023255552 ≤ d ∧ d ≤ 2199023255552) : -1152923703630102528 ≤ addG W H f a b d y x m ∧ addG W H f a b d y x m ≤ 1152923703630102528 := by
  have := FF_bound (x := m % (W + 1)) (y := m / (W + 1)) h1 h2 h
  unfold addG fenG
  split <;> omega
theorem sFAdd {R : HP} {fb W H a b : Nat} {f : Nat → Nat → Int} {d : Int} (hf : Far W H f) (hW : W ≤ 1024) (hH : H ≤ 1024) (ha : a < W) (hb : b < H) (hd : -1099511627776 ≤ f a b + d ∧ f a b + d ≤ 1099511627776) :
    FnR Tryz.prog R 50 [.pointer (some ⟨fb, 0, none⟩), cellV a b, .int .i64 d] [fenH fb W H f] fun r hs => r = .int .i64 0 ∧ hs = [fenH fb W H (plusF a b d f)] := by
  have hfab := hf a b ha hb
  have hd2 : -2199023255552 ≤ d ∧ d ≤ 2199023255552 := by omega
  have hN : fenN W H ≤ 1025 * 1025 := Nat.mul_le_mul (by omega) (by omega)
  have hat := fun (R' : HP) (hR' : ∀ w, Sat R' w → Sat (fenH fb W H f) w) => sFAt hf hW hH ha hb hR'
  have hlt : ∀ x y, x ≤ W → y ≤ H → ix W x y < fenN W H := fun x y h1 h2 => ix_lt h1 h2
  have hst := fun m => @addG_start W H a b m f d
  have hstep := fun y x m => @addG_step W H a b y x m f d
  have hnext := fun y x m => @addG_next W H a b y x m f d
  have hend := fun y (h : H < y) m (hm : m < fenN W H) => @addG_end W H a b y m f d ha hb h hm
  have hbd := fun y x m => @addG_bound W H a b y x m f d hW hH hf hd2
  have hbox : ∀ w sb g, (∀ m, m < fenN W H → g m = fenG W H (plusF a b d f) m) → Sat (sepL [fenRw sb (fenN W H) g, fenHd fb sb W H (fenN W H)] R) w → Sat (sepL [fenH fb W H (plusF a b d f)] R) w := by
    rintro w sb g e ⟨h, h1, h2⟩
    refine ⟨h, h1, boxH_shut sb ?_⟩
    rw [fenRw_to e] at h2
    exact sepL_pull 1 h2
  have hopen : ∀ {R : HP}, (∀ sb, FnR Tryz.prog R 50 [.pointer (some ⟨fb, 0, none⟩), cellV a b, .int .i64 d] [fenHd fb sb W H (fenN W H), fenRw sb (fenN W H) (fenG W H f)] fun r hs => r = .int .i64 0 ∧ hs = [fenH fb W H (plusF a b d f)]) → FnR Tryz.prog R 50 [.pointer (some ⟨fb, 0, none⟩), cellV a b, .int .i64 d] [fenH fb W H f] fun r hs => r = .int .i64 0 ∧ hs = [fenH fb W H (plusF a b d f)] := fun h => FnR.unbox fun sb => h sb
  have hsat : ∀ sb {A : HP} {w}, Sat (sepL [fenHd fb sb W H (fenN W H), fenRw sb (fenN W H) (fenG W H f)] A) w → Sat (fenH fb W H f) w := by
    rintro sb A w ⟨h, h1, h2⟩
    exact Sat.left ⟨h, h1, (boxH_shut (parts := fenP fb W H (fenN W H) (fenG W H f)) sb (l := []) h2 : sepL [fenH fb W H f] A h)⟩
  refine hopen fun sb => ?_
  generalize fenH fb W H f = FH at *
  generalize fenH fb W H (plusF a b d f) = FH' at *
  generalize fenG W H (plusF a b d f) = g1 at *
  generalize fenG W H f = g0 at *
  generalize hA : addG W H f a b d = A at *
  generalize fenN W H = N at *
  generalize f a b = n at *
  refine fn_of_run0 false Tryz.func50 rfl hmix rfl fun w0 => ?_
  conv => whnf
  refine ⟨trivial, CallAt.pure (fun R' hR' => hat R' fun w s => hsat sb (hR' w s)) ?_⟩
  conv => whnf
  refine iff_f (by decide) ?_
  conv => whnf
  refine ⟨fun h => ?_, fun h => absurd (of_decide_eq_true h) (by omega)⟩
  conv => whnf
  refine iff_f (decide_eq_false (by omega)) ?_
  conv => whnf
  refine ⟨(by (repeat' apply And.intro) <;> first | exact True.intro | (unfold rng; omega) | omega), LoopAt.heap (α := Nat) [0, 2, 4] (fun y => [(9, .v (.int .i64 (y : Int)))]) (fun y => [fenRw sb N (A y (a + 1)), fenHd fb sb W H N]) (fun y => 0 < y ∧ y ≤ 2 * H ∧ cov y (b + 1)) (fun y => H + 1 - y) (b + 1) ⟨by omega, by omega, cov_self (by omega)⟩ rfl ⟨⟨rfl, rfl⟩, trivial⟩ ⟨⟨rfl, rfl⟩, ⟨rfl, rfl⟩, ⟨rfl, rfl⟩, trivial⟩ ⟨⟨rfl, rfl, rfl, rfl⟩, trivial⟩ (fun h s => sub_same ?_) ?_⟩
  · rw [fenRw_to (fun m _ => hst m)]
    exact sepL_pull 1 s
  rintro y ⟨hy0, hy2, hcy⟩
  conv => whnf
  refine ⟨trivial, LoadAt.cell (.int .i64 (H : Int)) rfl rfl (fun w hw => (blk_sat (hw.in_ 1 rfl)).cell 1) ?_⟩
  conv => whnf
  refine ⟨fun h => ?_, fun h => ?_⟩
  · have hyH : y ≤ H := by simpa using h
    have ly := low_and hy0 (by omega)
    have lp := lob_pos y hy0
    conv => whnf
    refine ⟨⟨trivial, by unfold rng; omega⟩, LoopAt.heap (α := Nat) [0, 2, 4, 9] (fun x => [(10, .v (.int .i64 (x : Int)))]) (fun x => [fenRw sb N (A y x), fenHd fb sb W H N]) (fun x => 0 < x ∧ x ≤ 2 * W ∧ cov x (a + 1)) (fun x => W + 1 - x) (a + 1) ⟨by omega, by omega, cov_self (by omega)⟩ rfl ⟨⟨rfl, rfl⟩, trivial⟩ ⟨⟨rfl, rfl⟩, ⟨rfl, rfl⟩, ⟨rfl, rfl⟩, ⟨rfl, rfl⟩, trivial⟩ ⟨⟨rfl, rfl, rfl, rfl⟩, trivial⟩ (fun h s => sub_same s) ?_⟩
    rintro x ⟨hx0, hx2, hcx⟩
    conv => whnf
    refine ⟨trivial, LoadAt.cell (.int .i64 (W : Int)) rfl rfl (fun w hw => (blk_sat (hw.in_ 1 rfl)).cell 0) ?_⟩
    conv => whnf
    refine ⟨fun h => ?_, fun h => ?_⟩
    · have hxW : x ≤ W := by simpa using h
      have lx := low_and hx0 (by omega)
      have lq := lob_pos x hx0
      have hi := hlt x y hxW hyH
      have hs := fun m => hstep y x m hxW hx0 hy0 hcx hcy
      have b1 := hbd y x (ix W x y)
      conv => whnf
      refine ⟨trivial, RegAt.tail 13 hmix (by kernel_rfl) ?_⟩
      conv => whnf
      refine ⟨trivial, LoadAt.cell (.slice (some ⟨sb, 0, none⟩) N N) rfl rfl (fun w hw => (blk_sat (hw.in_ 1 rfl)).cell 2) ?_⟩
      conv => whnf
      refine ⟨trivial, CallQ.pure (fun R' hR' => sFat x y hW (by omega) (by omega) (fun w hw => (blk_sat ((hR' w hw).in_ 1 rfl)).cell 0)) ?_⟩
      conv => whnf
      refine ⟨⟨trivial, by omega⟩, LoadAt.cell (.int .i64 (A y x (ix W x y))) rfl rfl (fun w hw => by
        have := row_at (hw.in_ 0 rfl) (by omega) (ints_cellsL (g := A y x) hi)
        rw [Int.toNat_natCast]; simpa using this) ?_⟩
      conv => whnf
      refine ⟨⟨⟨trivial, by unfold rng; omega⟩, by omega⟩, OpAt.store sb _ (.int .i64 (A y x (ix W x y) + d)) [fenHd fb sb W H N] rfl (fun h s => s) rfl rfl rfl rfl rfl (by simp [Value.cells, Value.oneCell']) (fun h r => row_put (by simp [Value.cells]; omega) r) ?_⟩
      conv => whnf
      refine ⟨trivial, ?_⟩
      conv => whnf
      refine ⟨⟨⟨trivial, by unfold rng; omega⟩, by rw [lx.1]; unfold rng; omega⟩, Next.heap (upb x) ⟨by unfold upb; omega, by unfold upb; omega, cov_next (by omega) hx0 hcx⟩ (by unfold upb; omega) ⟨⟨?_, rfl⟩, trivial⟩ ⟨⟨rfl, rfl⟩, ⟨rfl, rfl⟩, ⟨rfl, rfl⟩, ⟨rfl, rfl⟩, trivial⟩ ⟨⟨rfl, rfl, rfl, rfl⟩, trivial⟩ rfl rfl fun h s => sub_same ?_⟩
      · show some _ = some _
        rw [lx.1]
        unfold upb
        congr 3
      · have s2 : sepL [rowH (.slice (some ⟨sb, 0, none⟩) N N) N 2 1 (putL (ints (cellsL N (A y x))) (0 + ix W x y) [.int .i64 (A y x (ix W x y) + d)]), fenHd fb sb W H N] R h := s
        rw [Nat.zero_add, cellsL_put (g' := A y (upb x)) hi (by rw [hs, if_pos rfl]) (fun m _ hm => by rw [hs, if_neg hm])] at s2
        exact s2
    · have hxW : W < x := by simp at h; omega
      conv => whnf
      refine ⟨⟨⟨trivial, by unfold rng; omega⟩, by rw [ly.1]; unfold rng; omega⟩, Next.heap (upb y) ⟨by unfold upb; omega, by unfold upb; omega, cov_next (by omega) hy0 hcy⟩ (by unfold upb; omega) ⟨⟨?_, rfl⟩, trivial⟩ ⟨⟨rfl, rfl⟩, ⟨rfl, rfl⟩, ⟨rfl, rfl⟩, trivial⟩ ⟨⟨rfl, rfl, rfl, rfl⟩, trivial⟩ rfl rfl fun h s => sub_same ?_⟩
      · show some _ = some _
        rw [ly.1]
        unfold upb
        congr 3
      · rw [fenRw_to (fun m _ => hnext y x m hxW hy0 hcy)] at s
        exact s
  · have hyH : H < y := by simp at h; omega
    conv => whnf
    exact ⟨trivial, .mk [FH'] (fun w s => hbox w sb _ (fun m hm => hend y hyH m hm) s) ⟨rfl, rfl⟩⟩
end Go.Proofs.YtlplbgbnojibmaaGreat

/-
  fen.Of: a grid's partial sums.
-/
namespace Go.Proofs.YtlplbgbnojibmaaGreat
open Go.RowKit
open Sy
set_option linter.unusedVariables false
set_option linter.unusedSimpArgs false
set_option maxRecDepth 100000
set_option maxHeartbeats 4000000

theorem vRows_ix {W H i : Nat} {f : Nat → Nat → Int} (hW : 1 ≤ W) (h : i < W * H) : (ints (vRows f 0 W 0 H))[i]? = some (.int .i64 (f (i % W) (i / W))) := by
  have h1 : i % W < W := Nat.mod_lt _ (by omega)
  have h2 : i / W < H := Nat.div_lt_of_lt_mul h
  have := gv_vRows (f := f) (H := H) h1 h2
  unfold gv at this
  have e : i / W * W + i % W = i := by have := Nat.div_add_mod i W; rw [Nat.mul_comm] at this; exact this
  rw [e] at this
  have hl : i < (vRows f 0 W 0 H).length := by rw [vRows_len, Nat.mul_comm]; exact h
  rw [getD_at hl] at this
  rw [ints_at _ _ hl, this]
theorem sFOf {R : HP} {gb W H : Nat} {f : Nat → Nat → Int} (hf : Far W H f) (hR : ∀ w, Sat R w → GridAt w gb W H f) :
    FnR Tryz.prog R 30 [.pointer (some ⟨gb, 0, none⟩)] [] fun r hs => ∃ fb, r = .tuple #[.pointer (some ⟨fb, 0, none⟩), .int .i64 0] ∧ hs = [fenH fb W H f] := by
  refine FnR.of_sat fun w hs => ?_
  obtain ⟨w1, w2, h1, h2⟩ := (hR w hs).size
  clear hs
  have hN : fenN W H ≤ 1025 * 1025 := Nat.mul_le_mul (by omega) (by omega)
  have hWH : W * H ≤ 1024 * 1024 := Nat.mul_le_mul w2 h2
  have hlt : ∀ x y, x ≤ W → y ≤ H → ix W x y < fenN W H := fun x y h1 h2 => ix_lt h1 h2
  have hmd : ∀ i, i < W * H → i % W < W ∧ i / W < H := fun i hi => ⟨Nat.mod_lt _ (by omega), Nat.div_lt_of_lt_mul hi⟩
  have hnew := fun R' => sFNew (R := R') ⟨w1, w2⟩ ⟨h1, h2⟩
  have hvs := fun i (hi : i < W * H) => vRows_ix (f := f) w1 hi
  have hval := fun (R' : HP) (hR' : ∀ w, Sat R' w → GridAt w gb W H f) => gValAll2 hR'
  have z1 := fun m => G1_zero W f m
  have s1 := fun i m => @G1_step W i m f w1
  have t2 := fun m hm => @G2_start W H m f hm
  have n2 := fun y m => @G2_next W y m f
  have y2 := fun y x m => @G2_yes W y x m f
  have o2 := fun y x m => @G2_no W y x m f
  have t3 := fun m hm => @G3_start W H m f hm
  have n3 := fun y m => @G3_next W H y m f
  have y3 := fun y x m => @G3_yes W H y x m f
  have k3 := fun y m => @G3_skip W H y m f
  have e3 := fun m hm => @G3_end W H m f hm
  have b2 := fun y x m hm => @G2_bound W H y x m f w2 hf hm
  have b3 := fun y x m => @G3_bound W H y x m f w2 h2 hf
  have hshut : ∀ fb sb g {A : HP} w, (∀ m, m < fenN W H → g m = fenG W H f m) → Sat (sepL [fenRw sb (fenN W H) g, A, fenHd fb sb W H (fenN W H)] R) w → Sat (sepL [fenH fb W H f] R) w := by
    rintro fb sb g A w e ⟨h, h1, h2⟩
    rw [fenRw_to e] at h2
    obtain ⟨h', e', s'⟩ := sub_tail (sepL_pull 1 h2)
    exact ⟨h', h1.mono e', boxH_shut sb (sepL_pull 1 s')⟩
  have hfen : ∀ fb, ∃ F, fenH fb W H f = F := fun fb => ⟨_, rfl⟩
  generalize hgf : fenG W H f = gf at *
  generalize hF : (fun fb => fenH fb W H f) = FH at *
  have hF' : ∀ fb, fenH fb W H f = FH fb := fun fb => by rw [← hF]
  simp only [hF'] at hshut ⊢
  clear hfen hF hF' hf
  have e3' : ∀ m, m < fenN W H → G3 W H f (H + 1) 1 m = gf m := fun m hm => by rw [e3 m hm, ← hgf]; rfl
  clear e3 hgf
  generalize G1 W f = A1 at *
  generalize G2 W f = A2 at *
  generalize G3 W H f = A3 at *
  generalize (vRows f 0 W 0 H) = V at *
  unfold fenN at *
  generalize (W + 1) * (H + 1) = N at *
  generalize W * H = M at *
  refine fn_of_run0 false Tryz.func30 rfl hmix rfl fun w0 => ?_
  conv => whnf
  refine ⟨trivial, CallAt.pure (fun R' hR' => gSize_p fun w s => hR w (hR' w s)) ?_⟩
  conv => whnf
  refine ⟨trivial, CallAt.fn (pre := []) [] (fun h s => s) (fun R' hR' => hnew R') ?_⟩
  rintro r hs ⟨fb, sb, rfl, rfl⟩
  conv => whnf
  refine ⟨trivial, CallAt.pure (fun R' hR' => gAll_p fun w s => hR w (hR' w s).rest) ?_⟩
  conv => whnf
  refine ⟨trivial, CallAt.fn (pre := []) _ (fun h s => s) (fun R' hR' => hval R' fun w s => hR w (hR' w s).rest) ?_⟩
  rintro r hs ⟨vb, vc, rfl, rfl⟩
  conv => whnf
  refine ⟨trivial, LoopAt.heap (α := Nat) [4, 35, 36] (fun i => [(37, .v (.int .i64 (i : Int)))]) (fun i => [fenRw sb N (A1 i), rowH (.slice (some ⟨vb, 0, none⟩) M vc) M 2 1 (ints V), fenHd fb sb W H N]) (fun i => i ≤ M) (fun i => M - i) 0 (Nat.zero_le _) rfl ⟨⟨rfl, rfl⟩, trivial⟩ ⟨⟨rfl, rfl⟩, ⟨rfl, rfl⟩, ⟨rfl, rfl⟩, trivial⟩ trivial (fun h s => sub_same ?_) ?_⟩
  · rw [fenRw_to (fun m _ => z1 m)]
    exact sepL_pull 2 s
  intro i hi
  conv => whnf
  refine ⟨fun h => ?_, fun h => ?_⟩
  · have hi2 : i < M := by simpa using h
    obtain ⟨m1, m2⟩ := hmd i hi2
    have c1 : (i : Int) % (W : Int) + 1 = ((i % W + 1 : Nat) : Int) := by simp
    have c2 : (i : Int) / (W : Int) + 1 = ((i / W + 1 : Nat) : Int) := by simp
    have hx := hlt (i % W + 1) (i / W + 1) (by omega) (by omega)
    have hs1 := s1 i
    have hv := hvs i hi2
    conv => whnf
    refine ⟨⟨trivial, by omega⟩, LoadAt.cell (.int .i64 (f (i % W) (i / W))) rfl rfl (fun w hw => by
      have := row_at (hw.in_ 1 rfl) (by omega) hv
      rw [Int.toNat_natCast]; simpa using this) ?_⟩
    generalize f (i % W) (i / W) = v at *
    conv => whnf
    refine ⟨trivial, RegAt.quiet hmix (by kernel_rfl) ?_⟩
    conv => whnf
    refine ⟨trivial, LoadAt.cell (.int .i64 (W : Int)) rfl rfl (fun w hw => (blk_sat (hw.in_ 2 rfl)).cell 0) ?_⟩
    conv => whnf
    refine ⟨?_, LoadAt.cell (.int .i64 (W : Int)) rfl rfl (fun w hw => (blk_sat (hw.in_ 2 rfl)).cell 0) ?_⟩
    · rw [c1]
      generalize i % W = p at *
      exact (by (repeat' apply And.intro) <;> first | exact True.intro | (unfold rng; omega) | omega)
    conv => whnf
    rw [c1, c2]
    refine ⟨?_, ?_⟩
    · have : (i : Int) / (W : Int) = ((i / W : Nat) : Int) := by simp
      rw [this]
      generalize i / W = p at *
      exact (by (repeat' apply And.intro) <;> first | exact True.intro | (unfold rng; omega) | omega)
    generalize i % W = p at *
    generalize i / W = q at *
    conv => whnf
    refine ⟨trivial, RegAt.tail 10 hmix (by kernel_rfl) ?_⟩
    conv => whnf
    refine ⟨trivial, LoadAt.cell (.slice (some ⟨sb, 0, none⟩) N N) rfl rfl (fun w hw => (blk_sat (hw.in_ 2 rfl)).cell 2) ?_⟩
    conv => whnf
    refine ⟨trivial, CallQ.pure (fun R' hR' => sFat (p + 1) (q + 1) w2 (by omega) (by omega) (fun w hw => (blk_sat ((hR' w hw).in_ 2 rfl)).cell 0)) ?_⟩
    conv => whnf
    refine ⟨⟨trivial, by omega⟩, OpAt.store sb _ (.int .i64 v) [rowH (.slice (some ⟨vb, 0, none⟩) M vc) M 2 1 (ints V), fenHd fb sb W H N] rfl (fun h s => s) rfl rfl rfl rfl rfl (by simp [Value.cells, Value.oneCell']) (fun h r => row_put (by simp [Value.cells]; omega) r) ?_⟩
    conv => whnf
    refine ⟨trivial, ?_⟩
    conv => whnf
    refine ⟨⟨trivial, by unfold rng; omega⟩, Next.heap (i + 1) (by omega) (by omega) ⟨⟨rfl, rfl⟩, trivial⟩ ⟨⟨rfl, rfl⟩, ⟨rfl, rfl⟩, ⟨rfl, rfl⟩, trivial⟩ trivial rfl rfl fun h s => sub_same ?_⟩
    have s2 : sepL [rowH (.slice (some ⟨sb, 0, none⟩) N N) N 2 1 (putL (ints (cellsL N (A1 i))) (0 + ix W (p + 1) (q + 1)) [.int .i64 v]), rowH (.slice (some ⟨vb, 0, none⟩) M vc) M 2 1 (ints V), fenHd fb sb W H N] R h := s
    rw [Nat.zero_add, cellsL_put (g' := A1 (i + 1)) hx (by rw [hs1, if_pos rfl]) (fun m _ hm => by rw [hs1, if_neg hm])] at s2
    exact s2
  · have hi2 : i = M := by simp at h; omega
    subst hi2
    conv => whnf
    refine ⟨trivial, LoopAt.heap (α := Nat) [4] (fun y => [(12, .v (.int .i64 (y : Int)))]) (fun y => [fenRw sb N (A2 y 1), rowH (.slice (some ⟨vb, 0, none⟩) i vc) i 2 1 (ints V), fenHd fb sb W H N]) (fun y => 1 ≤ y ∧ y ≤ H + 1) (fun y => H + 1 - y) 1 ⟨by omega, by omega⟩ rfl ⟨⟨rfl, rfl⟩, trivial⟩ ⟨⟨rfl, rfl⟩, trivial⟩ trivial (fun h s => sub_same ?_) ?_⟩
    · rw [fenRw_to (fun m hm => t2 m hm)]
      exact s
    rintro y ⟨hy1, hy2⟩
    conv => whnf
    refine ⟨trivial, LoadAt.cell (.int .i64 (H : Int)) rfl rfl (fun w hw => (blk_sat (hw.in_ 2 rfl)).cell 1) ?_⟩
    conv => whnf
    refine ⟨fun h => ?_, fun h => ?_⟩
    · have hyH : y ≤ H := by simpa using h
      conv => whnf
      refine ⟨trivial, LoopAt.heap (α := Nat) [4, 12] (fun x => [(13, .v (.int .i64 (x : Int)))]) (fun x => [fenRw sb N (A2 y x), rowH (.slice (some ⟨vb, 0, none⟩) i vc) i 2 1 (ints V), fenHd fb sb W H N]) (fun x => 1 ≤ x ∧ x ≤ W + 1) (fun x => W + 1 - x) 1 ⟨by omega, by omega⟩ rfl ⟨⟨rfl, rfl⟩, trivial⟩ ⟨⟨rfl, rfl⟩, ⟨rfl, rfl⟩, trivial⟩ trivial (fun h s => sub_same s) ?_⟩
      rintro x ⟨hx1, hx2⟩
      conv => whnf
      refine ⟨trivial, LoadAt.cell (.int .i64 (W : Int)) rfl rfl (fun w hw => (blk_sat (hw.in_ 2 rfl)).cell 0) ?_⟩
      conv => whnf
      refine ⟨fun h => ?_, fun h => ?_⟩
      · have hxW : x ≤ W := by simpa using h
        have lx := low_and (show 0 < x by omega) (by omega)
        have lq := lob_pos x (by omega)
        have eu : (x : Int) + bits .and .i64 (x : Int) (0 - (x : Int)) = ((upb x : Nat) : Int) := by rw [lx.1]; unfold upb; simp
        conv => whnf
        refine ⟨?_, LoadAt.cell (.int .i64 (W : Int)) rfl rfl (fun w hw => (blk_sat (hw.in_ 2 rfl)).cell 0) ?_⟩
        · rw [lx.1]
          exact (by (repeat' apply And.intro) <;> first | exact True.intro | (unfold rng; omega) | omega)
        conv => whnf
        rw [eu]
        refine ⟨fun h => ?_, fun h => ?_⟩
        · have hu : upb x ≤ W := by simpa using h
          have hi1 := hlt (upb x) y hu hyH
          have hi2 := hlt x y hxW hyH
          have hs2 := fun m => y2 y x m (by omega) hu
          have b1 := b2 y x _ hi1
          have b4 := b2 y x _ hi2
          conv => whnf
          refine ⟨trivial, RegAt.tail 22 hmix (by kernel_rfl) ?_⟩
          conv => whnf
          refine ⟨trivial, LoadAt.cell (.slice (some ⟨sb, 0, none⟩) N N) rfl rfl (fun w hw => (blk_sat (hw.in_ 2 rfl)).cell 2) ?_⟩
          conv => whnf
          refine ⟨trivial, CallQ.pure (fun R' hR' => sFat (upb x) y w2 (by omega) (by omega) (fun w hw => (blk_sat ((hR' w hw).in_ 2 rfl)).cell 0)) ?_⟩
          conv => whnf
          refine ⟨⟨trivial, by omega⟩, LoadAt.cell (.int .i64 (A2 y x (ix W (upb x) y))) rfl rfl (fun w hw => by
            have := row_at (hw.in_ 0 rfl) (by omega) (ints_cellsL (g := A2 y x) hi1)
            rw [Int.toNat_natCast]; simpa using this) ?_⟩
          conv => whnf
          refine ⟨trivial, LoadAt.cell (.slice (some ⟨sb, 0, none⟩) N N) rfl rfl (fun w hw => (blk_sat (hw.in_ 2 rfl)).cell 2) ?_⟩
          conv => whnf
          refine ⟨trivial, CallQ.pure (fun R' hR' => sFat x y w2 (by omega) (by omega) (fun w hw => (blk_sat ((hR' w hw).in_ 2 rfl)).cell 0)) ?_⟩
          conv => whnf
          refine ⟨⟨trivial, by omega⟩, LoadAt.cell (.int .i64 (A2 y x (ix W x y))) rfl rfl (fun w hw => by
            have := row_at (hw.in_ 0 rfl) (by omega) (ints_cellsL (g := A2 y x) hi2)
            rw [Int.toNat_natCast]; simpa using this) ?_⟩
          conv => whnf
          refine ⟨⟨⟨trivial, by unfold rng; omega⟩, by omega⟩, OpAt.store sb _ (.int .i64 (A2 y x (ix W (upb x) y) + A2 y x (ix W x y))) [rowH (.slice (some ⟨vb, 0, none⟩) i vc) i 2 1 (ints V), fenHd fb sb W H N] rfl (fun h s => s) rfl rfl rfl rfl rfl (by simp [Value.cells, Value.oneCell']) (fun h r => row_put (by simp [Value.cells]; omega) r) ?_⟩
          conv => whnf
          refine ⟨trivial, ?_⟩
          conv => whnf
          refine ⟨⟨trivial, by unfold rng; omega⟩, Next.heap (x + 1) (by omega) (by omega) ⟨⟨rfl, rfl⟩, trivial⟩ ⟨⟨rfl, rfl⟩, ⟨rfl, rfl⟩, trivial⟩ trivial rfl rfl fun h s => sub_same ?_⟩
          have s2 : sepL [rowH (.slice (some ⟨sb, 0, none⟩) N N) N 2 1 (putL (ints (cellsL N (A2 y x))) (0 + ix W (upb x) y) [.int .i64 (A2 y x (ix W (upb x) y) + A2 y x (ix W x y))]), rowH (.slice (some ⟨vb, 0, none⟩) i vc) i 2 1 (ints V), fenHd fb sb W H N] R h := s
          rw [Nat.zero_add, cellsL_put (g' := A2 y (x + 1)) hi1 (by rw [hs2, if_pos rfl]) (fun m _ hm => by rw [hs2, if_neg hm])] at s2
          exact s2
        · have hu : W < upb x := by simp at h; omega
          conv => whnf
          refine ⟨⟨trivial, by unfold rng; omega⟩, Next.heap (x + 1) (by omega) (by omega) ⟨⟨rfl, rfl⟩, trivial⟩ ⟨⟨rfl, rfl⟩, ⟨rfl, rfl⟩, trivial⟩ trivial rfl rfl fun h s => sub_same ?_⟩
          rw [fenRw_to (fun m _ => (o2 y x m (by omega) hu).symm)] at s
          exact s
      · have hxW : x = W + 1 := by simp at h; omega
        subst hxW
        conv => whnf
        refine ⟨⟨trivial, by unfold rng; omega⟩, Next.heap (y + 1) (by omega) (by omega) ⟨⟨rfl, rfl⟩, trivial⟩ ⟨⟨rfl, rfl⟩, trivial⟩ trivial rfl rfl fun h s => sub_same ?_⟩
        rw [fenRw_to (fun m _ => n2 y m)] at s
        exact s
    · have hyH : y = H + 1 := by simp at h; omega
      subst hyH
      conv => whnf
      refine ⟨trivial, LoopAt.heap (α := Nat) [4] (fun y => [(15, .v (.int .i64 (y : Int)))]) (fun y => [fenRw sb N (A3 y 1), rowH (.slice (some ⟨vb, 0, none⟩) i vc) i 2 1 (ints V), fenHd fb sb W H N]) (fun y => 1 ≤ y ∧ y ≤ H + 1) (fun y => H + 1 - y) 1 ⟨by omega, by omega⟩ rfl ⟨⟨rfl, rfl⟩, trivial⟩ ⟨⟨rfl, rfl⟩, trivial⟩ trivial (fun h s => sub_same ?_) ?_⟩
      · rw [fenRw_to (fun m hm => t3 m hm)]
        exact s
      rintro y ⟨hy1, hy2⟩
      conv => whnf
      refine ⟨trivial, LoadAt.cell (.int .i64 (H : Int)) rfl rfl (fun w hw => (blk_sat (hw.in_ 2 rfl)).cell 1) ?_⟩
      conv => whnf
      refine ⟨fun h => ?_, fun h => ?_⟩
      · have hyH : y ≤ H := by simpa using h
        have ly := low_and (show 0 < y by omega) (by omega)
        have lq := lob_pos y (by omega)
        have eu : (y : Int) + bits .and .i64 (y : Int) (0 - (y : Int)) = ((upb y : Nat) : Int) := by rw [ly.1]; unfold upb; simp
        conv => whnf
        refine ⟨?_, LoadAt.cell (.int .i64 (H : Int)) rfl rfl (fun w hw => (blk_sat (hw.in_ 2 rfl)).cell 1) ?_⟩
        · rw [ly.1]
          exact (by (repeat' apply And.intro) <;> first | exact True.intro | (unfold rng; omega) | omega)
        conv => whnf
        rw [eu]
        refine ⟨fun h => ?_, fun h => ?_⟩
        · have hu : upb y ≤ H := by simpa using h
          conv => whnf
          refine ⟨trivial, LoopAt.heap (α := Nat) [4, 15, 16] (fun x => [(17, .v (.int .i64 (x : Int)))]) (fun x => [fenRw sb N (A3 y x), rowH (.slice (some ⟨vb, 0, none⟩) i vc) i 2 1 (ints V), fenHd fb sb W H N]) (fun x => 1 ≤ x ∧ x ≤ W + 1) (fun x => W + 1 - x) 1 ⟨by omega, by omega⟩ rfl ⟨⟨rfl, rfl⟩, trivial⟩ ⟨⟨rfl, rfl⟩, ⟨rfl, rfl⟩, ⟨rfl, rfl⟩, trivial⟩ trivial (fun h s => sub_same s) ?_⟩
          rintro x ⟨hx1, hx2⟩
          conv => whnf
          refine ⟨trivial, LoadAt.cell (.int .i64 (W : Int)) rfl rfl (fun w hw => (blk_sat (hw.in_ 2 rfl)).cell 0) ?_⟩
          conv => whnf
          refine ⟨fun h => ?_, fun h => ?_⟩
          · have hxW : x ≤ W := by simpa using h
            have hi1 := hlt x (upb y) hxW hu
            have hi2 := hlt x y hxW hyH
            have hs2 := fun m => y3 y x m hx1 hxW (by omega)
            have b1 := b3 y x (ix W x (upb y))
            have b4 := b3 y x (ix W x y)
            conv => whnf
            refine ⟨trivial, RegAt.tail 22 hmix (by kernel_rfl) ?_⟩
            conv => whnf
            refine ⟨trivial, LoadAt.cell (.slice (some ⟨sb, 0, none⟩) N N) rfl rfl (fun w hw => (blk_sat (hw.in_ 2 rfl)).cell 2) ?_⟩
            conv => whnf
            refine ⟨trivial, CallQ.pure (fun R' hR' => sFat x (upb y) w2 (by omega) (by omega) (fun w hw => (blk_sat ((hR' w hw).in_ 2 rfl)).cell 0)) ?_⟩
            conv => whnf
            refine ⟨⟨trivial, by omega⟩, LoadAt.cell (.int .i64 (A3 y x (ix W x (upb y)))) rfl rfl (fun w hw => by
              have := row_at (hw.in_ 0 rfl) (by omega) (ints_cellsL (g := A3 y x) hi1)
              rw [Int.toNat_natCast]; simpa using this) ?_⟩
            conv => whnf
            refine ⟨trivial, LoadAt.cell (.slice (some ⟨sb, 0, none⟩) N N) rfl rfl (fun w hw => (blk_sat (hw.in_ 2 rfl)).cell 2) ?_⟩
            conv => whnf
            refine ⟨trivial, CallQ.pure (fun R' hR' => sFat x y w2 (by omega) (by omega) (fun w hw => (blk_sat ((hR' w hw).in_ 2 rfl)).cell 0)) ?_⟩
            conv => whnf
            refine ⟨⟨trivial, by omega⟩, LoadAt.cell (.int .i64 (A3 y x (ix W x y))) rfl rfl (fun w hw => by
              have := row_at (hw.in_ 0 rfl) (by omega) (ints_cellsL (g := A3 y x) hi2)
              rw [Int.toNat_natCast]; simpa using this) ?_⟩
            conv => whnf
            refine ⟨⟨⟨trivial, by unfold rng; omega⟩, by omega⟩, OpAt.store sb _ (.int .i64 (A3 y x (ix W x (upb y)) + A3 y x (ix W x y))) [rowH (.slice (some ⟨vb, 0, none⟩) i vc) i 2 1 (ints V), fenHd fb sb W H N] rfl (fun h s => s) rfl rfl rfl rfl rfl (by simp [Value.cells, Value.oneCell']) (fun h r => row_put (by simp [Value.cells]; omega) r) ?_⟩
            conv => whnf
            refine ⟨trivial, ?_⟩
            conv => whnf
            refine ⟨⟨trivial, by unfold rng; omega⟩, Next.heap (x + 1) (by omega) (by omega) ⟨⟨rfl, rfl⟩, trivial⟩ ⟨⟨rfl, rfl⟩, ⟨rfl, rfl⟩, ⟨rfl, rfl⟩, trivial⟩ trivial rfl rfl fun h s => sub_same ?_⟩
            have s2 : sepL [rowH (.slice (some ⟨sb, 0, none⟩) N N) N 2 1 (putL (ints (cellsL N (A3 y x))) (0 + ix W x (upb y)) [.int .i64 (A3 y x (ix W x (upb y)) + A3 y x (ix W x y))]), rowH (.slice (some ⟨vb, 0, none⟩) i vc) i 2 1 (ints V), fenHd fb sb W H N] R h := s
            rw [Nat.zero_add, cellsL_put (g' := A3 y (x + 1)) hi1 (by rw [hs2, if_pos rfl]) (fun m _ hm => by rw [hs2, if_neg hm])] at s2
            exact s2
          · have hxW : x = W + 1 := by simp at h; omega
            subst hxW
            conv => whnf
            refine ⟨⟨trivial, by unfold rng; omega⟩, Next.heap (y + 1) (by omega) (by omega) ⟨⟨rfl, rfl⟩, trivial⟩ ⟨⟨rfl, rfl⟩, trivial⟩ trivial rfl rfl fun h s => sub_same ?_⟩
            rw [fenRw_to (fun m _ => n3 y m)] at s
            exact s
        · have hu : H < upb y := by simp at h; omega
          conv => whnf
          refine ⟨⟨trivial, by unfold rng; omega⟩, Next.heap (y + 1) (by omega) (by omega) ⟨⟨rfl, rfl⟩, trivial⟩ ⟨⟨rfl, rfl⟩, trivial⟩ trivial rfl rfl fun h s => sub_same ?_⟩
          rw [fenRw_to (fun m hm => (k3 y m (by omega) hu hm).symm)] at s
          exact s
      · have hyH : y = H + 1 := by simp at h; omega
        subst hyH
        conv => whnf
        exact ⟨trivial, .mk [FH fb] (fun w s => hshut fb sb _ w e3' s) ⟨fb, rfl, rfl⟩⟩
theorem sFOfNil (R : HP) : PureR Tryz.prog R 30 [.pointer none] (.tuple #[.pointer none, .int .i64 1]) := by
  refine fn_of_run0 false Tryz.func30 rfl hmix rfl fun w0 => ?_
  conv => whnf
  exact ⟨trivial, fin_pure rfl rfl⟩
end Go.Proofs.YtlplbgbnojibmaaGreat

