/-
  Texts of the proofs, one behind the other: SyStr, SyEq, SySl, OpenSl.
-/
import Derived.Test.YtojlgfkjnkjcmaaGreatDoorPartZ
import Derived.Lib.OthersKept
import Derived.Laws.IdiomStrings
import Derived.DeepKeys
import Derived.ProofKit
import Derived.OpenShut
import Derived.Lib.SmallJoins
import Derived.Deep.Slices
/-
  Symbolic runs: a range over a string, bytes made a string.
-/
namespace Go.Proofs.YtojlgfkjnkjcmaaGreatDoor
open Go.RowKit
namespace Sy
set_option linter.unusedVariables false
set_option linter.unusedSimpArgs false

/-- a string's iterator -/
def itH (b : Nat) (s : ByteArray) (pos : Nat) : HP := fun h => ∀ i, h i = if i = b then some (.stringIter s pos) else none
theorem OpAt.range {G : Gl} {o : Oper} {st : St} {K : St → Prop} {t : TypeId} {x : Operand} (s : ByteArray) (ho : o.op = .range t x) (hx : evR st x = .string s) (hr : allR st o.op.operands.toList = true) (hu : G.P.underlying t = some .string)
    (k : ∀ b, putK G { st with h := itH b s 0 :: st.h } o.dst (.v (.pointer (some ⟨b, 0, none⟩))) none K) : OpAt G o st K := by
  refine OpAt.sem (pre := []) (post := fun v hs => ∃ b, v = .pointer (some ⟨b, 0, none⟩) ∧ hs = [itH b s 0]) st.h (fun h s => s) (by rw [ho]; rfl) hr ?_ ?_
  · intro R' _ w sat
    refine ⟨_, _, w.alloc (.stringIter s 0), ?_, ⟨w.heap.size, rfl, rfl⟩, ?_, .of_below ((Below.refl _ _).alloc (Nat.le_refl _) _)⟩
    · simp only [execOp, ho, hx, Instr.range, run_underlying hu, newObj, Sem.run_bind, Result.andThen_ok, Sem.run_pure]
      rfl
    · obtain ⟨h2, s2, a⟩ := sat
      have hb : Below w.heap.size w (w.alloc (.stringIter s 0)) := (Below.refl _ _).alloc (Nat.le_refl _) _
      refine ⟨un (fun i => if i = w.heap.size then some (.stringIter s 0) else none) h2, ?_, _, h2, fun i => ?_, rfl, fun i => rfl, a⟩
      · refine Sub.un (fun i o e => ?_) (s2.below hb)
        by_cases c : i = w.heap.size
        · subst c; rw [if_pos rfl] at e; rw [← e]; exact heap_alloc_new w _
        · rw [if_neg c] at e; cases e
      · by_cases c : i = w.heap.size
        · subst c; exact .inr (s2.none (Nat.le_refl _))
        · exact .inl (if_neg c)
  · rintro v hs ⟨b, rfl, rfl⟩
    exact k b
theorem OpAt.next {G : Gl} {o : Oper} {st : St} {K : St → Prop} {x : Operand} (b : Nat) (s : ByteArray) (pos : Nat) (rest : List HP) (ho : o.op = .next x true) (hp : ∀ h, sepL st.h G.R h → sepL (itH b s pos :: rest) G.R h) (hx : evR st x = .pointer (some ⟨b, 0, none⟩)) (hr : allR st o.op.operands.toList = true) (hlt : pos < s.size)
    (k : putK G { st with h := itH b s (pos + (Utf8.decode s pos).2) :: rest } o.dst (.v (.tuple #[.bool true, .int .i64 (pos : Int), .int .i32 ((Utf8.decode s pos).1 : Int)])) none K) : OpAt G o st K := by
  refine OpAt.sem (pre := [itH b s pos]) (post := fun v hs => v = .tuple #[.bool true, .int .i64 (pos : Int), .int .i32 ((Utf8.decode s pos).1 : Int)] ∧ hs = [itH b s (pos + (Utf8.decode s pos).2)]) rest hp (by rw [ho]; rfl) hr ?_ ?_
  · rintro R' _ w ⟨h, hsub, h1, h2, d, rfl, it, a⟩
    have hb : w.heap[b]? = some (.stringIter s pos) := hsub.left b _ (by rw [it]; simp)
    have hb2 : h2 b = none := by
      rcases d b with e | e
      · rw [it] at e; simp at e
      · exact e
    refine ⟨_, _, w.iterAt b s (pos + (Utf8.decode s pos).2), ?_, ⟨rfl, rfl⟩, ?_, ⟨rfl, rfl, rfl, by rw [Lib.iterAt_size]; exact Nat.le_refl _⟩⟩
    · simp only [execOp, ho, hx, Sem.run_bind, Lib.run_next_any_at w b s pos _ hb hlt, Result.andThen_ok, Sem.run_pure]
      try rfl
    · refine ⟨un (fun i => if i = b then some (.stringIter s (pos + (Utf8.decode s pos).2)) else none) h2, ?_, _, h2, fun i => ?_, rfl, fun i => rfl, a⟩
      · refine Sub.un (fun i o e => ?_) fun i o e => ?_
        · by_cases c : i = b
          · subst c; rw [if_pos rfl] at e; rw [← e]; exact Lib.iterAt_heap w _ s pos _ hb
          · rw [if_neg c] at e; cases e
        · have c : i ≠ b := fun c => by subst c; rw [hb2] at e; cases e
          rw [Lib.iterAt_other w b i s _ c]
          exact hsub.right d i o e
      · by_cases c : i = b
        · subst c; exact .inr hb2
        · exact .inl (if_neg c)
  · rintro v hs ⟨rfl, rfl⟩
    exact k
theorem OpAt.nextEnd {G : Gl} {o : Oper} {st : St} {K : St → Prop} {x : Operand} (b : Nat) (s : ByteArray) (pos : Nat) (rest : List HP) (ho : o.op = .next x true) (hp : ∀ h, sepL st.h G.R h → sepL (itH b s pos :: rest) G.R h) (hx : evR st x = .pointer (some ⟨b, 0, none⟩)) (hr : allR st o.op.operands.toList = true) (hlt : ¬ pos < s.size)
    (k : putK G st o.dst (.v (.tuple #[.bool false])) none K) : OpAt G o st K := by
  refine OpAt.val _ (by rw [ho]; rfl) hr (fun w sat => ?_) k
  obtain ⟨h, hsub, sp⟩ := sat
  obtain ⟨h1, h2, d, rfl, it, a⟩ := hp h sp
  have hb : w.heap[b]? = some (.stringIter s pos) := hsub.left b _ (by rw [it]; simp)
  simp only [execOp, ho, hx, Sem.run_bind, Lib.run_next_end_at w b s pos _ hb hlt, Result.andThen_ok, Sem.run_pure]

/-- a string of these bytes -/
def bs (l : List UInt8) : ByteArray := ⟨l.toArray⟩
@[simp] theorem bs_size (l : List UInt8) : (bs l).size = l.length := by simp [bs, ByteArray.size]
theorem bs_append (a b : List UInt8) : bs a ++ bs b = bs (a ++ b) := by
  apply ByteArray.ext
  simp [bs, ByteArray.data_append]
theorem bs_data (s : ByteArray) : bs s.data.toList = s := by simp [bs]
@[simp] theorem bs_toList (l : List UInt8) : (bs l).data.toList = l := by simp [bs]
theorem bs_inj {a b : List UInt8} : bs a = bs b ↔ a = b := ⟨fun h => by have := congrArg (fun s => s.data.toList) h; simpa using this, fun h => by rw [h]⟩
theorem bs_extract (l : List UInt8) (i j : Nat) : (bs l).extract i j = bs ((l.take j).drop i) := by
  apply ByteArray.ext
  simp [bs, ByteArray.data_extract, List.extract_eq_take_drop]
  rw [List.drop_take]
theorem byteAt_bs (l : List UInt8) (i : Nat) : byteAt (bs l) i = ((l[i]?).getD 0).toNat := by simp [byteAt]

/-- what the function made for itself is let go -/
theorem fin_drop {G : Gl} {st : St} {v r : Value} (e : r = v) : Fin G r st fun r hs => r = v ∧ hs = [] := ⟨[], fun w ⟨h, h1, s⟩ => by
  obtain ⟨h', e', s'⟩ := sub_nil s
  exact ⟨h', h1.mono e', s'⟩, e, rfl⟩

/-- a row of bytes made a string -/
theorem OpAt.bytesStr {G : Gl} {o : Oper} {st : St} {K : St → Prop} {src dst e : TypeId} {x : Operand} (g n cap : Nat) (l : List UInt8) (rest : List HP) (ho : o.op = .convert src dst x)
    (hp : ∀ h, sepL st.h G.R h → sepL (rowH (.slice (some ⟨g, 0, none⟩) n cap) n e 1 (l.map fun b => .int .u8 (b.toNat : Int)) :: rest) G.R h) (hx : evR st x = .slice (some ⟨g, 0, none⟩) n cap) (hr : allR st o.op.operands.toList = true)
    (hs : G.P.underlying src = some (.slice e)) (he : G.P.underlying e = some (.int .u8)) (hd : G.P.underlying dst = some .string)
    (k : putK G st o.dst (.v (.string (bs l))) none K) : OpAt G o st K := by
  refine OpAt.val _ (by rw [ho]; rfl) hr (fun w sat => ?_) k
  obtain ⟨h, hsub, sp⟩ := sat
  obtain ⟨h1, h2, d, rfl, r, a⟩ := hp h sp
  obtain ⟨hl, r⟩ := r
  have hn : n = l.length := by simpa using hl.symm
  subst hn
  rcases r with ⟨c, _⟩ | ⟨g', cap', cur, e1, e2, e3, e4, e5, e6⟩
  · cases c
  injection e1 with e1 _ _
  injection e1 with e1
  injection e1 with e1
  subst e1
  have hb : w.heap[g]? = some (.cells cur e (0, 0)) := hsub.left g _ (by rw [e2]; simp)
  have hc : ∀ j (hj : j < l.length), w.cell? ((⟨g, 0, none⟩ : Addr).add j) = some (.int .u8 (l[j].toNat : Int)) := fun j hj => by
    have h3 : cur.toList[j]? = some (.int .u8 (l[j].toNat : Int)) := by
      have : (cur.toList.take (l.length * 1))[j]? = some (.int .u8 (l[j].toNat : Int)) := by rw [e6]; simp [hj]
      rwa [List.getElem?_take_of_lt (by omega)] at this
    have : (⟨g, 0, none⟩ : Addr).add j = ⟨g, j, none⟩ := by cases j <;> simp [Addr.add]
    rw [this]
    unfold World.cell?
    rw [hb]
    simpa using h3
  simp only [execOp, ho, hx, Sem.run_bind, run_convert_bytes_back w src dst e ⟨g, 0, none⟩ cap l hs he hd hc, Result.andThen_ok, Sem.run_pure]
  rfl
end Sy
end Go.Proofs.YtojlgfkjnkjcmaaGreatDoor

/-
  Symbolic runs: structs of numbers, bools and strings compared.
-/
namespace Go.Proofs.YtojlgfkjnkjcmaaGreatDoor
open Go.RowKit
namespace Sy
set_option linter.unusedVariables false
set_option linter.unusedSimpArgs false

def eqFs (P : Program) (g : TypeId → List Value → List Value → Option Bool) (xs ys : List Value) : List Field → Option Bool
  | [] => some true
  | f :: fs => if f.name = "_" then none else match g f.type ((xs.drop f.offset).take (P.cellsOf f.type)) ((ys.drop f.offset).take (P.cellsOf f.type)) with
    | some r => match eqFs P g xs ys fs with
      | some r' => some (r && r')
      | none => none
    | none => none
/-- what a comparison of cells comes to -/
def eqT (P : Program) : Nat → TypeId → List Value → List Value → Option Bool
  | 0, _, _, _ => none
  | d + 1, t, xs, ys => match P.underlying t with
    | some (.int _) => match xs, ys with
      | [.int k a], [.int k' b] => if k = k' then some (a == b) else none
      | _, _ => none
    | some .bool => match xs, ys with
      | [.bool a], [.bool b] => some (a == b)
      | _, _ => none
    | some .string => match xs, ys with
      | [.string a], [.string b] => some (decide (a = b))
      | _, _ => none
    | some (.struct fs) => if P.stoodInHeld t = false ∧ xs.length = P.cellsOf t ∧ ys.length = P.cellsOf t then eqFs P (eqT P d) xs ys fs.toList else none
    | _ => none
def Pk (P : Program) (t : TypeId) (xs : List Value) (v : Value) : Prop := (∃ fs, P.underlying t = some (.struct fs)) ∧ v = .agg xs.toArray ∨ (¬ ∃ fs, P.underlying t = some (.struct fs)) ∧ xs = [v]
def eqGood (P : Program) (d : Nat) (t : TypeId) : Prop := ∀ (xs ys : List Value) (r : Bool) (x y : Value) (w : World), eqT P d t xs ys = some r → Pk P t xs x → Pk P t ys y → ∀ dd, d ≤ dd → (Op.equalIn dd t x y).run P w = .ok r w
theorem part_struct {P : Program} {t : TypeId} {fs : Array Field} (hu : P.underlying t = some (.struct fs)) (cs : Array Value) (off : Nat) (w : World) : (part t cs off).run P w = .ok (.agg ((cs.toList.drop off).take (P.cellsOf t)).toArray) w := by
  obtain ⟨i, hi⟩ := info_of_underlying hu
  have h2 : (sizeOf t).run P w = .ok (P.cellsOf t) w := run_sizeOf w hi
  have e : cs.extract off (off + P.cellsOf t) = ((cs.toList.drop off).take (P.cellsOf t)).toArray := by
    apply Array.ext'
    rw [Array.toList_extract]
    simp [List.extract]
  simp [part, isAgg, run_underlying hu, h2, e]
theorem part_leaf {P : Program} {t : TypeId} {d : TypeDesc} (hu : P.underlying t = some d) (hd : d.isRow = false) {cs : Array Value} {off n : Nat} {v : Value} (h : (cs.toList.drop off).take n = [v]) (w : World) : (part t cs off).run P w = .ok v w := by
  have hx : cs[off]? = some v := by
    have h1 : ((cs.toList.drop off).take n)[0]? = some v := by rw [h]; rfl
    rw [List.getElem?_take] at h1
    split at h1
    · rw [List.getElem?_drop] at h1
      simpa using h1
    · cases h1
  have hagg : (isAgg t).run P w = .ok false w := by
    unfold isAgg
    rw [Sem.run_bind, run_underlying hu w]
    cases d <;> simp_all [TypeDesc.isRow]
  unfold part
  rw [Sem.run_bind, hagg]
  simp [hx]
theorem part_pk {P : Program} {d : Nat} {t : TypeId} {xs ys : Array Value} {off : Nat} {r : Bool} (h : eqT P d t ((xs.toList.drop off).take (P.cellsOf t)) ((ys.toList.drop off).take (P.cellsOf t)) = some r) (w : World) :
    ∃ a b, (part t xs off).run P w = .ok a w ∧ (part t ys off).run P w = .ok b w ∧ Pk P t ((xs.toList.drop off).take (P.cellsOf t)) a ∧ Pk P t ((ys.toList.drop off).take (P.cellsOf t)) b := by
  cases d with
  | zero => cases h
  | succ d =>
    unfold eqT at h
    split at h
    · rename_i k hu
      split at h
      · rename_i e1 e2
        exact ⟨_, _, part_leaf hu rfl e1 w, part_leaf hu rfl e2 w, .inr ⟨(by rintro ⟨fs, e⟩; rw [hu] at e; cases e), e1⟩, .inr ⟨(by rintro ⟨fs, e⟩; rw [hu] at e; cases e), e2⟩⟩
      · cases h
    · rename_i hu
      split at h
      · rename_i e1 e2
        exact ⟨_, _, part_leaf hu rfl e1 w, part_leaf hu rfl e2 w, .inr ⟨(by rintro ⟨fs, e⟩; rw [hu] at e; cases e), e1⟩, .inr ⟨(by rintro ⟨fs, e⟩; rw [hu] at e; cases e), e2⟩⟩
      · cases h
    · rename_i hu
      split at h
      · rename_i e1 e2
        exact ⟨_, _, part_leaf hu rfl e1 w, part_leaf hu rfl e2 w, .inr ⟨(by rintro ⟨fs, e⟩; rw [hu] at e; cases e), e1⟩, .inr ⟨(by rintro ⟨fs, e⟩; rw [hu] at e; cases e), e2⟩⟩
      · cases h
    · rename_i fs hu
      exact ⟨_, _, part_struct hu _ _ w, part_struct hu _ _ w, .inl ⟨⟨fs, hu⟩, rfl⟩, .inl ⟨⟨fs, hu⟩, rfl⟩⟩
    · cases h
theorem eqFs_sound {P : Program} {d dd : Nat} (IH : ∀ t, eqGood P d t) (hd : d ≤ dd) {xs ys : Array Value} {w : World} : ∀ {fs : List Field} {r : Bool}, eqFs P (eqT P d) xs.toList ys.toList fs = some r → (Op.eqFields dd xs ys fs).run P w = .ok r w
  | [], r, h => by
    simp only [eqFs, Option.some.injEq] at h
    subst h
    simp [Op.eqFields]
  | f :: fs, r, h => by
    unfold eqFs at h
    split at h
    · cases h
    · rename_i hn
      split at h
      · rename_i r1 h1
        split at h
        · rename_i r2 h2
          injection h with h
          subst h
          obtain ⟨a, b, p1, p2, k1, k2⟩ := part_pk h1 w
          have e := IH f.type _ _ _ _ _ w h1 k1 k2 dd hd
          have e2 := eqFs_sound IH hd (w := w) h2
          simp only [Op.eqFields, hn, ne_eq, not_false_eq_true, if_true, Sem.run_bind, p1, p2, e, Result.andThen_ok, Sem.run_ite, Sem.run_pure]
          cases r1 <;> simp [e2]
        · cases h
      · cases h
theorem eqT_good (P : Program) : ∀ (d : Nat) (t : TypeId), eqGood P d t
  | 0, t => fun _ _ _ _ _ _ h => by cases h
  | d + 1, t => by
    intro xs ys r x y w h kx ky dd hdd
    obtain ⟨dd, rfl⟩ : ∃ e, dd = e + 1 := ⟨dd - 1, by omega⟩
    unfold eqT at h
    have leaf : (¬ ∃ fs, P.underlying t = some (.struct fs)) → xs = [x] ∧ ys = [y] := fun hn => by
      rcases kx with ⟨e, _⟩ | ⟨_, e⟩
      · exact absurd e hn
      · rcases ky with ⟨e', _⟩ | ⟨_, e'⟩
        · exact absurd e' hn
        · exact ⟨e, e'⟩
    split at h
    · rename_i k hu
      obtain ⟨rfl, rfl⟩ := leaf (by rintro ⟨fs, e⟩; rw [hu] at e; cases e)
      split at h
      · rename_i k1 a k2 b e1 e2
        simp only [List.cons.injEq, and_true] at e1 e2
        subst e1 e2
        split at h
        · rename_i ek
          subst ek
          injection h with h
          subst h
          exact run_equalIn_int w dd t _ k a b hu
        · cases h
      · cases h
    · rename_i hu
      obtain ⟨rfl, rfl⟩ := leaf (by rintro ⟨fs, e⟩; rw [hu] at e; cases e)
      split at h
      · rename_i a b e1 e2
        simp only [List.cons.injEq, and_true] at e1 e2
        subst e1 e2
        injection h with h
        subst h
        exact run_equalIn_bool w dd t a b hu
      · cases h
    · rename_i hu
      obtain ⟨rfl, rfl⟩ := leaf (by rintro ⟨fs, e⟩; rw [hu] at e; cases e)
      split at h
      · rename_i a b e1 e2
        simp only [List.cons.injEq, and_true] at e1 e2
        subst e1 e2
        injection h with h
        subst h
        rw [← str_beq]
        exact run_equalIn_string w dd t a b hu
      · cases h
    · rename_i fs hu
      split at h
      · rename_i hc
        have hx : x = .agg xs.toArray := by
          rcases kx with ⟨_, e⟩ | ⟨e, _⟩
          · exact e
          · exact absurd ⟨fs, hu⟩ e
        have hy : y = .agg ys.toArray := by
          rcases ky with ⟨_, e⟩ | ⟨e, _⟩
          · exact e
          · exact absurd ⟨fs, hu⟩ e
        subst hx hy
        have hf : P.fieldsOf t = fs := by unfold Program.fieldsOf; rw [hu]
        rw [run_equalIn_struct w dd t _ _ (by rw [hf]; exact hu) hc.1, hf]
        exact eqFs_sound (eqT_good P d) (by omega) (by simpa using h)
      · cases h
    · cases h
/-- structs compared -/
theorem eq_agg {P : Program} {t : TypeId} (d : Nat) {xs ys : Array Value} {r : Bool} (hs : (P.underlying t).map (fun u => match u with | .struct _ => true | _ => false) = some true) (hd : d ≤ 10000) (h : eqT P d t xs.toList ys.toList = some r) (w : World) : (Op.equalIn 10000 t (.agg xs) (.agg ys)).run P w = .ok r w := by
  obtain ⟨fs, hu⟩ : ∃ fs, P.underlying t = some (.struct fs) := by
    cases hu : P.underlying t with
    | none => rw [hu] at hs; cases hs
    | some u => cases u <;> rw [hu] at hs <;> first | exact ⟨_, rfl⟩ | (simp at hs)
  exact eqT_good P d t _ _ _ _ _ w h (.inl ⟨⟨fs, hu⟩, rfl⟩) (.inl ⟨⟨fs, hu⟩, rfl⟩) 10000 hd
end Sy
end Go.Proofs.YtojlgfkjnkjcmaaGreatDoor

/-
  Symbolic runs: slices that are only read, of whatever the elements are.
-/
namespace Go.Proofs.YtojlgfkjnkjcmaaGreatDoor
open Go.RowKit
namespace Sy
set_option linter.unusedVariables false
set_option linter.unusedSimpArgs false

def Sl (R : HP) (A : Option Addr) (n size : Nat) (xs : List Value) : Prop := ∀ w, Sat R w → Reads w w.heap.size size A n xs
/-- where they are -/
def SpotV (R : HP) (A : Option Addr) (n : Nat) (xs : List Value) : Prop := n = 0 ∨ ∃ b off, A = some ⟨b, off, none⟩ ∧ ∀ w, Sat R w → ∀ (j : Nat) u, xs[j]? = some u → w.cell? ⟨b, off + j, none⟩ = some u
theorem Sl.spot {R : HP} {A : Option Addr} {n size : Nat} {xs : List Value} (hs : 0 < size) (h : Sl R A n size xs) {w : World} (s : Sat R w) : xs.length = n * size ∧ SpotV R A n xs := by
  have hr := h w s
  refine ⟨hr.1, ?_⟩
  rcases Nat.eq_zero_or_pos n with h0 | h0
  · exact .inl h0
  · right
    obtain ⟨ad, e, hb, hc⟩ := hr.2 h0
    obtain ⟨b, off, spot⟩ := ad
    have hl : 0 < xs.length := by rw [hr.1]; exact Nat.mul_pos h0 hs
    have h1 := hc 0 _ (List.getElem?_eq_getElem hl)
    have hs : spot = none := by simpa [Addr.add] using World.cell?_spot h1
    subst hs
    refine ⟨b, off, e, fun w' s' j u hu => ?_⟩
    obtain ⟨ad', e', _, hc'⟩ := (h w' s').2 h0
    rw [e] at e'
    injection e' with e'
    subst e'
    have := hc' j u hu
    rwa [add_plain] at this
theorem Sl.mono {R R' : HP} {A : Option Addr} {n size : Nat} {xs : List Value} (h : Sl R A n size xs) (hr : ∀ w, Sat R' w → Sat R w) : Sl R' A n size xs := fun w s => h w (hr w s)
theorem Sl.row {R : HP} {A : Option Addr} {n c size : Nat} {e : TypeId} {xs : List Value} (h : ∀ w, Sat R w → Sat (rowH (.slice A n c) n e size xs) w) : Sl R A n size xs := fun w s => rowH_reads rfl (h w s)
theorem sl_of_reads {w : World} {A : Option Addr} {n size : Nat} {xs : List Value} (hs : 0 < size) (h : Reads w w.heap.size size A n xs) : Sl (was w) A n size xs := by
  intro w' s
  refine ⟨h.1, fun hn => ?_⟩
  obtain ⟨ad, e, hb, hc⟩ := h.2 hn
  have key : ∀ p : Addr, p.block < w.heap.size → w'.cell? p = w.cell? p := fun p hp => by
    have e0 : w.heap[p.block]? = some w.heap[p.block] := Array.getElem?_eq_getElem hp
    have e1 : w'.heap[p.block]? = w.heap[p.block]? := by rw [e0]; exact was_ext s e0
    simp only [World.cell?, e1]
  refine ⟨ad, e, ?_, fun j u hu => (key _ (by rw [add_block]; exact hb)).trans (hc j u hu)⟩
  have e0 : w.heap[ad.block]? = some w.heap[ad.block] := Array.getElem?_eq_getElem hb
  exact (Array.getElem?_eq_some_iff.1 (was_ext s e0)).1
theorem Sl.nil (R : HP) (A : Option Addr) (size : Nat) : Sl R A 0 size [] := fun w s => Reads.empty
end Sy
end Go.Proofs.YtojlgfkjnkjcmaaGreatDoor

/-
  Slices of structs of numbers among the arguments.
-/
namespace Go.Proofs.YtojlgfkjnkjcmaaGreatDoor
open Go.ChangeShapes Go.WideShapes Go.ChangeAt Go.RowKit Go.Joins
namespace Sy
set_option linter.unusedVariables false
set_option linter.unusedSimpArgs false

def leafF (g : TypeId → Nat → Option IntKind) (P : Program) (j : Nat) : List Field → Option IntKind
  | [] => none
  | f :: fs => if f.offset ≤ j ∧ j < f.offset + P.cellsOf f.type then g f.type (j - f.offset) else leafF g P j fs
/-- the kind of the number that is a type's cell -/
def leafK (P : Program) : Nat → TypeId → Nat → Option IntKind
  | 0, _, _ => none
  | d + 1, t, j => match P.underlying t with
    | some (.int k) => if j = 0 then some k else none
    | some (.struct fs) => leafF (leafK P d) P j fs.toList
    | _ => none
theorem leafF_some {g : TypeId → Nat → Option IntKind} {P : Program} {j : Nat} {k : IntKind} : ∀ {l : List Field}, leafF g P j l = some k → ∃ (i : Nat) (f : Field), l[i]? = some f ∧ f.offset ≤ j ∧ j < f.offset + P.cellsOf f.type ∧ g f.type (j - f.offset) = some k
  | [], h => by cases h
  | f :: fs, h => by
    unfold leafF at h
    split at h
    · rename_i hc
      exact ⟨0, f, rfl, hc.1, hc.2, h⟩
    · obtain ⟨i, f', h1, h2⟩ := leafF_some h
      exact ⟨i + 1, f', by simpa using h1, h2⟩
section
variable {H : Type} {enc : TypeId × Value → H} {P : Program} {w : World} {base : Nat} {spare : Nat → Bool} {held : Bool}
theorem trod_leaf : ∀ (d : Nat) {t : TypeId} {j : Nat} {k : IntKind} {fuel : Nat} {cs : List Value} {x : DataW H × List MemPlace}, leafK P d t j = some k → DataW.trod enc P w base spare held fuel t cs = some x → ∃ z, cs[j]? = some (.int k z) ∧ (Lit.int k z).wf = true
  | 0, t, j, k, fuel, cs, x, h, _ => by cases h
  | d + 1, t, j, k, fuel, cs, x, h, hx => by
    unfold leafK at h
    split at h
    · rename_i k' hu
      split at h
      · rename_i hj
        injection h with h
        subst h hj
        obtain ⟨z, e, _, hw⟩ := DataW.trod_int hu hx
        exact ⟨z, by rw [e]; rfl, hw⟩
      · cases h
    · rename_i fs hu
      obtain ⟨i, f, h1, h2, h3, h4⟩ := leafF_some h
      obtain ⟨xs, n, _, rfl, hl, hlen, hf⟩ := DataW.trod_struct hu hx
      have h1' : fs[i]? = some f := by simpa using h1
      have hf' := hf i f (by simpa using h1)
      have hlt : i < xs.length := by rw [hlen]; exact (Array.getElem?_eq_some_iff.1 h1').1
      rw [List.getElem?_eq_getElem hlt] at hf'
      obtain ⟨z, e, hw⟩ := trod_leaf d h4 hf'
      refine ⟨z, ?_, hw⟩
      rw [List.getElem?_take] at e
      split at e
      · rw [List.getElem?_drop] at e
        rw [← e]
        congr 1
        omega
      · cases e
    · cases h
/-- a slice of structs of numbers -/
theorem open_flat {t e : TypeId} {fuel : Nat} {cs : List Value} {x : DataW H × List MemPlace} (s : Nat) (ks : Nat → IntKind) (ht : P.underlying t = some (.slice e)) (hs : P.cellsOf e = s) (hk : ∀ j, j < s → leafK P 6 e j = some (ks j)) (h : DataW.trod enc P w base spare held fuel t cs = some x) :
    cs = [.slice none 0 0] ∨ ∃ (a : Addr) (len cap : Nat) (zs : Nat → Nat → Int), cs = [.slice (some a) len cap] ∧ len ≤ cap ∧ cap ≤ maxLen ∧ ∀ i j, i < len → j < s → w.cell? (a.add (i * s + j)) = some (.int (ks j) (zs i j)) ∧ (Lit.int (ks j) (zs i j)).wf = true := by
  rcases Go.Deep.open_slice ht h with ⟨h0, _⟩ | ⟨a, len, cap, m, n, D, Pl, rfl, hb, hl, hm, hmm, rfl, hx⟩
  · exact .inl h0
  right
  have hle : len ≤ m := by rw [hmm]; split <;> omega
  have key : ∀ i j, ∃ z, i < len → j < s → w.cell? (a.add (i * s + j)) = some (.int (ks j) z) ∧ (Lit.int (ks j) z).wf = true := by
    intro i j
    by_cases c : i < len ∧ j < s
    · obtain ⟨cs', h1, h2⟩ := hx i (by omega)
      obtain ⟨z, e, hw⟩ := trod_leaf 6 (hk j c.2) h2
      obtain ⟨_, hlen, hcell⟩ := World.cells?_some h1
      have hj : j < cs'.length := (List.getElem?_eq_some_iff.1 e).1
      refine ⟨z, fun _ _ => ⟨?_, hw⟩⟩
      have h3 := hcell j (by rw [← hlen]; exact hj)
      rw [e] at h3
      rw [hs, Addr.add_add] at h3
      exact h3
    · exact ⟨0, fun h1 h2 => absurd ⟨h1, h2⟩ c⟩
  exact ⟨a, len, cap, fun i j => Classical.choose (key i j), rfl, hl, hm, fun i j hi hj => Classical.choose_spec (key i j) hi hj⟩
end
/-- what such a slice reads as -/
theorem reads_flat {w : World} {a : Addr} {len s : Nat} {ks : Nat → IntKind} {zs : Nat → Nat → Int} (hs : 0 < s) (h : ∀ i j, i < len → j < s → w.cell? (a.add (i * s + j)) = some (.int (ks j) (zs i j)) ∧ (Lit.int (ks j) (zs i j)).wf = true) {xs : List Value} (hl : xs.length = len * s) (hx : ∀ i j, i < len → j < s → xs[i * s + j]? = some (.int (ks j) (zs i j))) :
    Reads w w.heap.size s (some a) len xs := by
  refine ⟨hl, fun hn => ⟨a, rfl, ?_, fun j u hu => ?_⟩⟩
  · have := (h 0 0 hn hs).1
    have := World.block_lt_of_cell? w _ this
    rwa [add_block] at this
  · have hj : j < len * s := by rw [← hl]; exact (List.getElem?_eq_some_iff.1 hu).1
    have h1 : j / s < len := Nat.div_lt_of_lt_mul (by rw [Nat.mul_comm]; exact hj)
    have h2 : j % s < s := Nat.mod_lt _ hs
    have e : j / s * s + j % s = j := by have := Nat.div_add_mod j s; rw [Nat.mul_comm] at this; exact this
    have h3 := hx (j / s) (j % s) h1 h2
    have h4 := (h (j / s) (j % s) h1 h2).1
    rw [e] at h3 h4
    rw [h3] at hu
    injection hu with hu
    rw [h4, hu]
end Sy
end Go.Proofs.YtojlgfkjnkjcmaaGreatDoor

