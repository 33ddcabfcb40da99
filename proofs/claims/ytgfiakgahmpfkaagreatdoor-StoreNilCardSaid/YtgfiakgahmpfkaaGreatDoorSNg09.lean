/-
  Texts of the proofs, one behind the other: SySl, SySub, TintA, TintB, TintC, TintShelf, SyDefer, TintD, TintE, ScO, JoinShelf, ScJ, ScW.
-/
import Derived.Test.YtgfiakgahmpfkaaGreatDoorSNg05
import Derived.Test.YtgfiakgahmpfkaaGreatDoorSNg08
import Derived.Shelf.Small.Utf8
import Derived.Shelf.Strings.Split
import Derived.Shelf.Utf8.AppendRunePlain
import Derived.Test.YtgfiakgahmpfkaaGreatDoorProg
import Derived.Test.YtgfiakgahmpfkaaGreatDoorSNg04
import Derived.Defers
import Derived.Recover
import Derived.WalkSmall
import Derived.Test.YtgfiakgahmpfkaaGreatDoorSNg03
import Derived.Test.YtgfiakgahmpfkaaGreatDoorSNg07
import Derived.Shelf.Strings.OnBuilder
import Derived.Ground.SlgnProg
namespace Go.Proofs.YtgfiakgahmpfkaaGreatDoor
open Go.RowKit
namespace Sy
set_option linter.unusedVariables false
set_option linter.unusedSimpArgs false

def Sl (R : HP) (A : Option Addr) (n size : Nat) (xs : List Value) : Prop := ∀ w, Sat R w → Reads w w.heap.size size A n xs
/-- where they are -/
def SpotV (R : HP) (A : Option Addr) (n : Nat) (xs : List Value) : Prop := n = 0 ∨ ∃ b off, A = some ⟨b, off, none⟩ ∧ ∀ w, Sat R w → ∀ (j : Nat) u, xs[j]? = some u → w.cell? ⟨b, off + j, none⟩ = some u
theorem Sl.spot {R : HP} {A : Option Addr} {n size : Nat} {xs : List Value} (hs : 0 < size) (h : Sl R A n size xs) {w : World} (s : Sat R w) : xs.length = n * size ∧ SpotV R A n xs := by
  have hr := h w s
  refine ⟨hr.1, ?_⟩
  rcases Nat.eq_zero_or_pos n with h0 | h0
  · exact .inl h0
  · right
    obtain ⟨ad, e, hb, hc⟩ := hr.2 h0
    obtain ⟨b, off, spot⟩ := ad
    have hl : 0 < xs.length := by rw [hr.1]; exact Nat.mul_pos h0 hs
    have h1 := hc 0 _ (List.getElem?_eq_getElem hl)
    have hs : spot = none := by simpa [Addr.add] using World.cell?_spot h1
    subst hs
    refine ⟨b, off, e, fun w' s' j u hu => ?_⟩
    obtain ⟨ad', e', _, hc'⟩ := (h w' s').2 h0
    rw [e] at e'
    injection e' with e'
    subst e'
    have := hc' j u hu
    rwa [add_plain] at this
theorem Sl.mono {R R' : HP} {A : Option Addr} {n size : Nat} {xs : List Value} (h : Sl R A n size xs) (hr : ∀ w, Sat R' w → Sat R w) : Sl R' A n size xs := fun w s => h w (hr w s)
theorem sl_of_reads {w : World} {A : Option Addr} {n size : Nat} {xs : List Value} (hs : 0 < size) (h : Reads w w.heap.size size A n xs) : Sl (was w) A n size xs := by
  intro w' s
  refine ⟨h.1, fun hn => ?_⟩
  obtain ⟨ad, e, hb, hc⟩ := h.2 hn
  have key : ∀ p : Addr, p.block < w.heap.size → w'.cell? p = w.cell? p := fun p hp => by
    have e0 : w.heap[p.block]? = some w.heap[p.block] := Array.getElem?_eq_getElem hp
    have e1 : w'.heap[p.block]? = w.heap[p.block]? := by rw [e0]; exact was_ext s e0
    simp only [World.cell?, e1]
  refine ⟨ad, e, ?_, fun j u hu => (key _ (by rw [add_block]; exact hb)).trans (hc j u hu)⟩
  have e0 : w.heap[ad.block]? = some w.heap[ad.block] := Array.getElem?_eq_getElem hb
  exact (Array.getElem?_eq_some_iff.1 (was_ext s e0)).1
end Sy
open Sy
set_option linter.unusedVariables false
set_option linter.unusedSimpArgs false
set_option maxRecDepth 100000
set_option maxHeartbeats 4000000

/-- some parts out of all -/
theorem sub_front {R : HP} {r : List HP} : ∀ {m : List HP} {h : Hl}, sepL (m ++ r) R h → ∃ h' : Hl, (∀ i o, h' i = some o → h i = some o) ∧ sepL m R h'
  | [], h, s => sub_nil s
  | A :: m, h, s => by
    obtain ⟨h1, h2, d, rfl, a, s⟩ := s
    obtain ⟨h', e, s'⟩ := sub_front (m := m) s
    have dom : ∀ i, h2 i = none → h' i = none := fun i c => by
      cases x : h' i with
      | none => rfl
      | some o => rw [e i o x] at c; cases c
    refine ⟨un h1 h', fun i o hi => ?_, h1, h', fun i => (d i).imp_right (dom i), rfl, a, s'⟩
    unfold un at hi ⊢
    cases c : h1 i with
    | some x => rw [c] at hi; exact hi
    | none => rw [c] at hi; simp only [Option.none_or] at hi ⊢; exact e i o hi
theorem row_nil {R : HP} {h : Hl} (e : TypeId) (size : Nat) (s : R h) : sepL [rowH (.slice none 0 0) 0 e size []] R h := by
  refine ⟨fun _ => none, h, fun i => .inl rfl, ?_, ⟨by simp, .inl ⟨rfl, rfl, fun _ => rfl⟩⟩, s⟩
  funext i; simp [un]
theorem FnR.of_sat {P : Program} {R : HP} {f : FuncId} {args : List Value} {pre : List HP} {post : Value → List HP → Prop} (h : ∀ w, Sat (sepL pre R) w → FnR P R f args pre post) : FnR P R f args pre post := fun w hs => h w hs w hs
theorem PureR.of_sat {P : Program} {R : HP} {f : FuncId} {args : List Value} {v : Value} (h : ∀ w, Sat R w → PureR P R f args v) : PureR P R f args v := fun w hs => h w hs w hs

def bdC (b : Bd) : List Value := [.int .i64 b.f, .int .i32 b.s]
def bcel (l : List Bd) : List Value := l.flatMap bdC
theorem bcel_len (l : List Bd) : (bcel l).length = l.length * 2 := by
  induction l with
  | nil => rfl
  | cons a l ih =>
    have e : bcel (a :: l) = bdC a ++ bcel l := rfl
    rw [e, List.length_append, ih]
    simp [bdC]; omega
theorem bcel_at : ∀ {l : List Bd} {i : Nat} (h : i < l.length), (bcel l)[i * 2]? = some (.int .i64 l[i].f) ∧ (bcel l)[i * 2 + 1]? = some (.int .i32 l[i].s)
  | f :: l, 0, _ => ⟨rfl, rfl⟩
  | f :: l, i + 1, h => by
    have := bcel_at (l := l) (i := i) (by simpa using h)
    have e : bcel (f :: l) = .int .i64 f.f :: .int .i32 f.s :: bcel l := rfl
    rw [e, show (i + 1) * 2 = i * 2 + 2 by omega]
    simpa using this


open Go.Shelf
namespace Sy
set_option linter.unusedVariables false
set_option linter.unusedSimpArgs false

def glD (P : Program) (R : HP) (w0 : World) (N : Nat) (tr : Bool) (B : List Nat) (d : Deferred) (X : List PanicEntry → Prop) (RX : HP) (AX : List (Nat × Value)) : Gl := ⟨P, R, w0, N, tr, B, [d], X, RX, AX⟩

/-- where the body of a function that defers ends: its parts; the slots of its results -/
inductive EndD (G : Gl) (st : St) (mid : List HP → Prop) : Prop
  | mk (hs : List HP) (h : ∀ w, Sat (sepL st.h G.R) w → Sat (sepL hs G.R) w) (ha : axAt G.AX st) (k : mid hs)
def endK (G : Gl) (mid : List HP → Prop) (st : St) : Prop := stp st fun st => EndD G st mid
def dfr (g : FuncId) (caps : List Value) : Deferred := { target := .fn (.func g) caps.toArray, args := #[] }
/-- what a function that defers asks, where the call is laid -/
structure DefD (P : Program) (R : HP) (w0 : World) (fn : Func) (d : Deferred) (X : List PanicEntry → Prop) (RX : HP) (AX : List (Nat × Value)) (mid : List HP → Prop) (post : Value → List HP → Prop) : Prop where
  ret : ∀ hs, mid hs → ∀ w a, Sat (sepL hs R) w → Wd w0 w → axA AX a → Leaves P fn a.tmps (fun e w' => ∃ v hs, e = .returned v ∧ post v hs ∧ Sat (sepL hs R) w' ∧ Wd w0 w') [d] .returning w
  pan : ∀ ch, X ch → ∀ w a, Sat RX w → Wd w0 w → axA AX a → Leaves P fn a.tmps (fun e w' => ∃ v hs, e = .returned v ∧ post v hs ∧ Sat (sepL hs R) w' ∧ Wd w0 w') [d] (.panicking ch) w
inductive DefAt (P : Program) (R : HP) (w0 : World) (tr : Bool) (fn : Func) (x : Operand) (rest : Code) (st : St) (post : Value → List HP → Prop) : Prop
  | mk (g : FuncId) (caps : List Value) (X : List PanicEntry → Prop) (RX : HP) (AX : List (Nat × Value)) (mid : List HP → Prop) (hx : evR st x = .func (.func g) #[] caps.toArray) (hr : isR st x = true) (hd : DefD P R w0 fn (dfr g caps) X RX AX mid post)
      (k : run (glD P R w0 fn.ntmps tr [] (dfr g caps) X RX AX) rest st (endK (glD P R w0 fn.ntmps tr [] (dfr g caps) X RX AX) mid) (fun _ _ => False) (endK (glD P R w0 fn.ntmps tr [] (dfr g caps) X RX AX) mid))
end Sy


def pieces (s : List UInt8) : List (List UInt8) := Lib.splitK [44] 0 (s.count 44) s
theorem bcel_one (b : Bd) : bcel [b] = [.int .i64 b.f, .int .i32 b.s] := rfl
structure RdS where
  i : Nat
  A : Option Addr
  c : Nat
namespace Cx
set_option linter.unusedVariables false
set_option linter.unusedSimpArgs false
set_option maxRecDepth 100000
set_option maxHeartbeats 4000000

/-! Split -/
structure Cut where
  s : List UInt8
  b : UInt8
  ws : List (List UInt8)
end Cx
namespace Cx
set_option linter.unusedVariables false
set_option linter.unusedSimpArgs false
set_option maxRecDepth 100000
set_option maxHeartbeats 4000000

end Cx

def wjn (c : UInt8) (ws : List (List UInt8)) : List UInt8 := Lib.join ws [c]
/-- each behind the byte -/
def wds (c : UInt8) (ws : List (List UInt8)) : List UInt8 := ws.flatMap fun q => c :: q
theorem wds_nil (c : UInt8) : wds c [] = [] := rfl
theorem jn_nil (c : UInt8) : wjn c [] = [] := rfl
end Go.Proofs.YtgfiakgahmpfkaaGreatDoor
