/-
  Symbolic runs: a range over a string, bytes made a string.
-/
import Derived.Test.YteplckkoiffnnaaGreatDoorSyPart
import Derived.Lib.OthersKept
import Derived.Laws.IdiomStrings
namespace Go.Proofs.YteplckkoiffnnaaGreatDoor
open Go.RowKit
namespace Sy
set_option linter.unusedVariables false
set_option linter.unusedSimpArgs false

/-- a string's iterator -/
def itH (b : Nat) (s : ByteArray) (pos : Nat) : HP := fun h => ∀ i, h i = if i = b then some (.stringIter s pos) else none
theorem OpAt.range {G : Gl} {o : Oper} {st : St} {K : St → Prop} {t : TypeId} {x : Operand} (s : ByteArray) (ho : o.op = .range t x) (hx : evR st x = .string s) (hr : allR st o.op.operands.toList = true) (hu : G.P.underlying t = some .string)
    (k : ∀ b, putK G { st with h := itH b s 0 :: st.h } o.dst (.v (.pointer (some ⟨b, 0, none⟩))) none K) : OpAt G o st K := by
  refine OpAt.sem (pre := []) (post := fun v hs => ∃ b, v = .pointer (some ⟨b, 0, none⟩) ∧ hs = [itH b s 0]) st.h (fun h s => s) (by rw [ho]; rfl) hr ?_ ?_
  · intro R' _ w sat
    refine ⟨_, _, w.alloc (.stringIter s 0), ?_, ⟨w.heap.size, rfl, rfl⟩, ?_, .of_below ((Below.refl _ _).alloc (Nat.le_refl _) _)⟩
    · simp only [execOp, ho, hx, Instr.range, run_underlying hu, newObj, Sem.run_bind, Result.andThen_ok, Sem.run_pure]
      rfl
    · obtain ⟨h2, s2, a⟩ := sat
      have hb : Below w.heap.size w (w.alloc (.stringIter s 0)) := (Below.refl _ _).alloc (Nat.le_refl _) _
      refine ⟨un (fun i => if i = w.heap.size then some (.stringIter s 0) else none) h2, ?_, _, h2, fun i => ?_, rfl, fun i => rfl, a⟩
      · refine Sub.un (fun i o e => ?_) (s2.below hb)
        by_cases c : i = w.heap.size
        · subst c; rw [if_pos rfl] at e; rw [← e]; exact heap_alloc_new w _
        · rw [if_neg c] at e; cases e
      · by_cases c : i = w.heap.size
        · subst c; exact .inr (s2.none (Nat.le_refl _))
        · exact .inl (if_neg c)
  · rintro v hs ⟨b, rfl, rfl⟩
    exact k b
theorem OpAt.next {G : Gl} {o : Oper} {st : St} {K : St → Prop} {x : Operand} (b : Nat) (s : ByteArray) (pos : Nat) (rest : List HP) (ho : o.op = .next x true) (hp : ∀ h, sepL st.h G.R h → sepL (itH b s pos :: rest) G.R h) (hx : evR st x = .pointer (some ⟨b, 0, none⟩)) (hr : allR st o.op.operands.toList = true) (hlt : pos < s.size)
    (k : putK G { st with h := itH b s (pos + (Utf8.decode s pos).2) :: rest } o.dst (.v (.tuple #[.bool true, .int .i64 (pos : Int), .int .i32 ((Utf8.decode s pos).1 : Int)])) none K) : OpAt G o st K := by
  refine OpAt.sem (pre := [itH b s pos]) (post := fun v hs => v = .tuple #[.bool true, .int .i64 (pos : Int), .int .i32 ((Utf8.decode s pos).1 : Int)] ∧ hs = [itH b s (pos + (Utf8.decode s pos).2)]) rest hp (by rw [ho]; rfl) hr ?_ ?_
  · rintro R' _ w ⟨h, hsub, h1, h2, d, rfl, it, a⟩
    have hb : w.heap[b]? = some (.stringIter s pos) := hsub.left b _ (by rw [it]; simp)
    have hb2 : h2 b = none := by
      rcases d b with e | e
      · rw [it] at e; simp at e
      · exact e
    refine ⟨_, _, w.iterAt b s (pos + (Utf8.decode s pos).2), ?_, ⟨rfl, rfl⟩, ?_, ⟨rfl, rfl, rfl, by rw [Lib.iterAt_size]; exact Nat.le_refl _⟩⟩
    · simp only [execOp, ho, hx, Sem.run_bind, Lib.run_next_any_at w b s pos _ hb hlt, Result.andThen_ok, Sem.run_pure]
      try rfl
    · refine ⟨un (fun i => if i = b then some (.stringIter s (pos + (Utf8.decode s pos).2)) else none) h2, ?_, _, h2, fun i => ?_, rfl, fun i => rfl, a⟩
      · refine Sub.un (fun i o e => ?_) fun i o e => ?_
        · by_cases c : i = b
          · subst c; rw [if_pos rfl] at e; rw [← e]; exact Lib.iterAt_heap w _ s pos _ hb
          · rw [if_neg c] at e; cases e
        · have c : i ≠ b := fun c => by subst c; rw [hb2] at e; cases e
          rw [Lib.iterAt_other w b i s _ c]
          exact hsub.right d i o e
      · by_cases c : i = b
        · subst c; exact .inr hb2
        · exact .inl (if_neg c)
  · rintro v hs ⟨rfl, rfl⟩
    exact k
theorem OpAt.nextEnd {G : Gl} {o : Oper} {st : St} {K : St → Prop} {x : Operand} (b : Nat) (s : ByteArray) (pos : Nat) (rest : List HP) (ho : o.op = .next x true) (hp : ∀ h, sepL st.h G.R h → sepL (itH b s pos :: rest) G.R h) (hx : evR st x = .pointer (some ⟨b, 0, none⟩)) (hr : allR st o.op.operands.toList = true) (hlt : ¬ pos < s.size)
    (k : putK G st o.dst (.v (.tuple #[.bool false])) none K) : OpAt G o st K := by
  refine OpAt.val _ (by rw [ho]; rfl) hr (fun w sat => ?_) k
  obtain ⟨h, hsub, sp⟩ := sat
  obtain ⟨h1, h2, d, rfl, it, a⟩ := hp h sp
  have hb : w.heap[b]? = some (.stringIter s pos) := hsub.left b _ (by rw [it]; simp)
  simp only [execOp, ho, hx, Sem.run_bind, Lib.run_next_end_at w b s pos _ hb hlt, Result.andThen_ok, Sem.run_pure]

/-- a string of these bytes -/
def bs (l : List UInt8) : ByteArray := ⟨l.toArray⟩
@[simp] theorem bs_size (l : List UInt8) : (bs l).size = l.length := by simp [bs, ByteArray.size]
theorem bs_append (a b : List UInt8) : bs a ++ bs b = bs (a ++ b) := by
  apply ByteArray.ext
  simp [bs, ByteArray.data_append]
theorem bs_data (s : ByteArray) : bs s.data.toList = s := by simp [bs]
@[simp] theorem bs_toList (l : List UInt8) : (bs l).data.toList = l := by simp [bs]
theorem bs_inj {a b : List UInt8} : bs a = bs b ↔ a = b := ⟨fun h => by have := congrArg (fun s => s.data.toList) h; simpa using this, fun h => by rw [h]⟩
theorem bs_extract (l : List UInt8) (i j : Nat) : (bs l).extract i j = bs ((l.take j).drop i) := by
  apply ByteArray.ext
  simp [bs, ByteArray.data_extract, List.extract_eq_take_drop]
  rw [List.drop_take]
theorem byteAt_bs (l : List UInt8) (i : Nat) : byteAt (bs l) i = ((l[i]?).getD 0).toNat := by simp [byteAt]

/-- what the function made for itself is let go -/
theorem fin_drop {G : Gl} {st : St} {v r : Value} (e : r = v) : Fin G r st fun r hs => r = v ∧ hs = [] := ⟨[], fun w ⟨h, h1, s⟩ => by
  obtain ⟨h', e', s'⟩ := sub_nil s
  exact ⟨h', h1.mono e', s'⟩, e, rfl⟩

/-- a row of bytes made a string -/
theorem OpAt.bytesStr {G : Gl} {o : Oper} {st : St} {K : St → Prop} {src dst e : TypeId} {x : Operand} (g n cap : Nat) (l : List UInt8) (rest : List HP) (ho : o.op = .convert src dst x)
    (hp : ∀ h, sepL st.h G.R h → sepL (rowH (.slice (some ⟨g, 0, none⟩) n cap) n e 1 (l.map fun b => .int .u8 (b.toNat : Int)) :: rest) G.R h) (hx : evR st x = .slice (some ⟨g, 0, none⟩) n cap) (hr : allR st o.op.operands.toList = true)
    (hs : G.P.underlying src = some (.slice e)) (he : G.P.underlying e = some (.int .u8)) (hd : G.P.underlying dst = some .string)
    (k : putK G st o.dst (.v (.string (bs l))) none K) : OpAt G o st K := by
  refine OpAt.val _ (by rw [ho]; rfl) hr (fun w sat => ?_) k
  obtain ⟨h, hsub, sp⟩ := sat
  obtain ⟨h1, h2, d, rfl, r, a⟩ := hp h sp
  obtain ⟨hl, r⟩ := r
  have hn : n = l.length := by simpa using hl.symm
  subst hn
  rcases r with ⟨c, _⟩ | ⟨g', cap', cur, e1, e2, e3, e4, e5, e6⟩
  · cases c
  injection e1 with e1 _ _
  injection e1 with e1
  injection e1 with e1
  subst e1
  have hb : w.heap[g]? = some (.cells cur e (0, 0)) := hsub.left g _ (by rw [e2]; simp)
  have hc : ∀ j (hj : j < l.length), w.cell? ((⟨g, 0, none⟩ : Addr).add j) = some (.int .u8 (l[j].toNat : Int)) := fun j hj => by
    have h3 : cur.toList[j]? = some (.int .u8 (l[j].toNat : Int)) := by
      have : (cur.toList.take (l.length * 1))[j]? = some (.int .u8 (l[j].toNat : Int)) := by rw [e6]; simp [hj]
      rwa [List.getElem?_take_of_lt (by omega)] at this
    have : (⟨g, 0, none⟩ : Addr).add j = ⟨g, j, none⟩ := by cases j <;> simp [Addr.add]
    rw [this]
    unfold World.cell?
    rw [hb]
    simpa using h3
  simp only [execOp, ho, hx, Sem.run_bind, run_convert_bytes_back w src dst e ⟨g, 0, none⟩ cap l hs he hd hc, Result.andThen_ok, Sem.run_pure]
  rfl
end Sy
end Go.Proofs.YteplckkoiffnnaaGreatDoor
