/-
  The statement QuadSets: for every input the call returns true. The texts: QuadSetsW, QuadDoor, QuadSetsRow.
-/
import Derived.Test.YtojlgfkjnkjcmaaGreatDoorPartQh
import Derived.Test.YtojlgfkjnkjcmaaGreatDoorPartQa
import Derived.ProofKit
import Derived.OpenShut
import Derived.Lib.SmallJoins
import Derived.LaidMore
import Derived.Stop.Joined
import Derived.Stop.LaidErr
import Derived.Lib.LaidTab
import Derived.SevenTiedAt
import Derived.Test.YtojlgfkjnkjcmaaGreatDoorCards
import Derived.Test.YtojlgfkjnkjcmaaGreatDoorTie
/-
  SETS BY SQUARES: the walk of QuadSets.
-/
namespace Go.Proofs.YtojlgfkjnkjcmaaGreatDoor
open Go.RowKit
open Sy
set_option linter.unusedVariables false
set_option linter.unusedSimpArgs false
set_option maxRecDepth 100000
set_option maxHeartbeats 4000000

/-- the loop's state -/
structure QsS where
  i : Nat
  A1 : Option Addr
  c1 : Nat
  A2 : Option Addr
  c2 : Nat
  A3 : Option Addr
  c3 : Nat
  A4 : Option Addr
  c4 : Nat
/-- what the two calls hand out -/
structure QsC where
  b1 : Nat
  c1 : Nat
  b2 : Nat
  c2 : Nat
theorem QuadSets_walk (W H : Int) (A : Option Addr) (m c : Nat) (l : List Int) (B : Option Addr) (k d : Nat) (o : List Int) (t s : Int) (w : World) (hT : TabW w) (ha : Reads w w.heap.size 1 A m (ints l)) (hm : m ≤ maxLen) (hb : Reads w w.heap.size 1 B k (ints o)) (hk : k ≤ maxLen) :
    Calls Tryz.prog 3 #[.int .i64 W, .int .i64 H, .slice A m c, .slice B k d, .int .i64 t, .int .i64 s] w fun e w' => e = .returned (.bool true) ∧ Below w.heap.size w w' := by
  refine PureR.below (args := [.int .i64 W, .int .i64 H, .slice A m c, .slice B k d, .int .i64 t, .int .i64 s]) ?_
  have hv := vs_of_reads ha
  have hu := vs_of_reads hb
  have hTB := fun R' (h : ∀ w', Sat R' w' → Sat (was w) w') => fun w' (s : Sat R' w') => tab_keep hT (h w' s)
  have haw := fun R' (h : ∀ w', Sat R' w' → Sat (was w) w') => sAwake50 (R := R') fun w' s => tab_keep hT (h w' s)
  by_cases hok : LandOk W H 300 m l
  · by_cases hok2 : LandOk W H 300 k o
    · obtain ⟨W, H, rfl, rfl, w1, w2, h1, h2, hWH, hn0, hn1⟩ := land_nat hok (by decide)
      have hvm := hok.2.2.2.2.2.2
      have hum := hok2.2.2.2.2.2.2
      have hml : l.length = m := by have := ha.1; simpa [ints] using this
      have hkl : o.length = k := by have := hb.1; simpa [ints] using this
      have hmk : k = m := by
        obtain ⟨W', H', e1, e2, _, _, _, _, e3, _⟩ := land_nat hok2 (by decide)
        have : W = W' := by omega
        have : H = H' := by omega
        subst W' H'
        omega
      subst hmk
      subst hWH
      have hsmall : W ≤ 300 ∧ H ≤ 300 := by
        have a := hok.2.2.1
        have b := hok.2.2.2.1
        omega
      obtain ⟨n, hn, hS⟩ := side_ex 9 (max (W : Int) H) (by have : (2 : Int) ^ 9 = 512 := rfl; omega)
      refine fn_of_run0 false Tryz.func3 rfl hmix rfl fun w0 => ?_
      conv => whnf
      refine ⟨trivial, CallAt.pure (fun R' hR' => haw R' hR') ?_⟩
      conv => whnf
      refine iff_f rfl ?_
      conv => whnf
      refine ⟨trivial, CallAt.pure (fun R' hR' => sLandYes (hv.mono fun w s => hR' w s) (by decide) hm hok) ?_⟩
      conv => whnf
      refine ⟨trivial, CallAt.pure (fun R' hR' => sLandYes (hu.mono fun w s => hR' w s) (by decide) hm hok2) ?_⟩
      conv => whnf
      repeat (first | (refine ⟨fun _ => ?_, fun h => absurd h (by decide)⟩; conv => whnf) | (refine ⟨fun h => absurd h (by decide), fun _ => ?_⟩; conv => whnf))
      refine ⟨trivial, CallAt.fn (pre := []) _ (fun h s => s) (fun R' hR' => sMadeV (hv.mono fun w s => (hR' w s).rest) w1 w2 h1 h2 rfl hvm) ?_⟩
      rintro r hs ⟨g1, rfl, rfl⟩
      conv => whnf
      refine ⟨trivial, CallAt.fn (pre := []) _ (fun h s => s) (fun R' hR' => sMadeV (hu.mono fun w s => (hR' w s).rest) w1 w2 h1 h2 rfl hum) ?_⟩
      rintro r hs ⟨g2, rfl, rfl⟩
      conv => whnf
      refine ⟨trivial, CallAt.fn (pre := []) _ (fun h s => s) (fun R' hR' => sQOf t (gridAt_rest 1 rfl hR') (by omega) hS) ?_⟩
      rintro r hs ⟨q1, rfl, rfl⟩
      conv => whnf
      refine ⟨trivial, CallAt.fn (pre := []) _ (fun h s => s) (fun R' hR' => sQOf s (gridAt_rest 1 rfl hR') (by omega) hS) ?_⟩
      rintro r hs ⟨q2, rfl, rfl⟩
      conv => whnf
      repeat (first | (refine ⟨fun _ => ?_, fun h => absurd h (by decide)⟩; conv => whnf) | (refine ⟨fun h => absurd h (by decide), fun _ => ?_⟩; conv => whnf))
      have hP : ∀ R' : HP, (∀ w', Sat R' w' → Sat (was w) w') → _ := fun R' h => rOfAt (R := R') (c0 := c) t (hv.mono h) (by omega) (by omega)
      have hQ : ∀ R' : HP, (∀ w', Sat R' w' → Sat (was w) w') → _ := fun R' h => rOfAt (R := R') (c0 := d) s (hu.mono h) (by omega) (by omega)
      refine ⟨trivial, RegAt.joinsE (α := QsC) [((Tr.T 0 (Tr.T 1 (Tr.T 3 (Tr.T 4 (Tr.D 2 (Tr.D 5 (Tr.C 6 (Tr.H 7 Tr.E) 7 (Tr.H 6 Tr.E)) 6 (Tr.C 5 (Tr.H 7 Tr.E) 7 (Tr.H 5 Tr.E)) 7 (Tr.C 5 (Tr.H 6 Tr.E) 6 (Tr.H 5 Tr.E))) 6 (Tr.C 2 (Tr.C 5 (Tr.H 7 Tr.E) 7 (Tr.H 5 Tr.E)) 7 (Tr.H 2 (Tr.H 5 Tr.E))) 7 (Tr.C 2 (Tr.C 5 (Tr.H 6 Tr.E) 6 (Tr.H 5 Tr.E)) 6 (Tr.H 2 (Tr.H 5 Tr.E)))))))), 8), ((Tr.H 8 Tr.E), 9), ((Tr.H 9 Tr.E), 10)] [0, 1, 2, 21, 23] (fun _ => [(25, .p 0 0), (26, .p 1 0)]) (fun a => [(1, 37, [.v (.int .i64 W), .v (.int .i64 H), .v (.slice (some ⟨a.b2, 0, none⟩) (W * H) a.c2)]), (0, 37, [.v (.int .i64 W), .v (.int .i64 H), .v (.slice (some ⟨a.b1, 0, none⟩) (W * H) a.c1)])]) 2 (fun a => [rowH (.slice (some ⟨a.b2, 0, none⟩) (W * H) a.c2) (W * H) 4 1 (bls (ovl o s)), rowH (.slice (some ⟨a.b1, 0, none⟩) (W * H) a.c1) (W * H) 4 1 (bls (ovl l t)), quadH q2 W H (canon (inQ W H (overQ (gv W o) s)) n 0 0), quadH q1 W H (canon (inQ W H (overQ (gv W l) t)) n 0 0)]) hmix (by kernel_rfl) ?_ ?_⟩
      · conv => whnf
        refine ⟨?_, ?_, ?_⟩
        · conv => whnf
          refine ⟨trivial, CallAt.fn (pre := []) _ (fun h s => s) (fun R' hR' => hP R' fun w s => (hR' w s).rest) ?_⟩
          rintro r hs ⟨bP, cP, rfl, rfl⟩
          conv => whnf
          refine ⟨trivial, ⟨⟨rfl, rfl⟩, fun h s => sub_tail s⟩, ?_⟩
          conv => whnf
          refine ⟨?_, ?_, ?_⟩
          · conv => whnf
            refine ⟨trivial, CallAt.fn (pre := []) _ (fun h s => s) (fun R' hR' => hQ R' fun w s => (hR' w s).rest) ?_⟩
            rintro r hs ⟨bQ, cQ, rfl, rfl⟩
            conv => whnf
            refine ⟨trivial, ⟨⟨rfl, rfl⟩, fun h s => sub_two s⟩, ?_⟩
            conv => whnf
            refine ⟨?_, ?_⟩
            · conv => whnf
              refine ⟨trivial, ⟨⟨rfl, rfl⟩, fun h s => sub_two s⟩, ?_⟩
              conv => whnf
              refine ⟨trivial, ⟨⟨rfl, rfl⟩, fun h s => sub_two s⟩, ?_⟩
              conv => whnf
              refine ⟨trivial, trivial, ?_⟩
              conv => whnf
              exact ⟨trivial, ⟨bP, cP, bQ, cQ⟩, Le.pick [2, 3] rfl rfl rfl rfl ⟨⟨_, rfl, rfl⟩, ⟨_, rfl, rfl⟩, ⟨_, rfl, rfl⟩, ⟨_, rfl, rfl⟩, ⟨_, rfl, rfl⟩, ⟨_, rfl, rfl⟩, ⟨_, rfl, rfl⟩, trivial⟩ ⟨⟨_, _, rfl, rfl, rfl⟩, ⟨_, _, rfl, rfl, rfl⟩, trivial⟩ rfl fun h s => sub_front (m := [_, _, _, _]) s⟩
            · conv => whnf
              refine ⟨trivial, ⟨⟨rfl, rfl⟩, fun h s => sub_two s⟩, ?_⟩
              conv => whnf
              refine ⟨trivial, ⟨⟨rfl, rfl⟩, fun h s => sub_two s⟩, ?_⟩
              conv => whnf
              refine ⟨trivial, trivial, ?_⟩
              conv => whnf
              exact ⟨trivial, ⟨bP, cP, bQ, cQ⟩, Le.pick [3, 2] rfl rfl rfl rfl ⟨⟨_, rfl, rfl⟩, ⟨_, rfl, rfl⟩, ⟨_, rfl, rfl⟩, ⟨_, rfl, rfl⟩, ⟨_, rfl, rfl⟩, ⟨_, rfl, rfl⟩, ⟨_, rfl, rfl⟩, trivial⟩ ⟨⟨_, _, rfl, rfl, rfl⟩, ⟨_, _, rfl, rfl, rfl⟩, trivial⟩ rfl fun h s => sub_front (m := [_, _, _, _]) s⟩
          · conv => whnf
            refine ⟨trivial, ⟨⟨rfl, rfl⟩, fun h s => sub_tail s⟩, ?_⟩
            conv => whnf
            refine ⟨?_, ?_⟩
            · conv => whnf
              refine ⟨trivial, CallAt.fn (pre := []) _ (fun h s => s) (fun R' hR' => hQ R' fun w s => (hR' w s).rest) ?_⟩
              rintro r hs ⟨bQ, cQ, rfl, rfl⟩
              conv => whnf
              refine ⟨trivial, ⟨⟨rfl, rfl⟩, fun h s => sub_two s⟩, ?_⟩
              conv => whnf
              refine ⟨trivial, ⟨⟨rfl, rfl⟩, fun h s => sub_two s⟩, ?_⟩
              conv => whnf
              refine ⟨trivial, trivial, ?_⟩
              conv => whnf
              exact ⟨trivial, ⟨bP, cP, bQ, cQ⟩, Le.pick [2, 3] rfl rfl rfl rfl ⟨⟨_, rfl, rfl⟩, ⟨_, rfl, rfl⟩, ⟨_, rfl, rfl⟩, ⟨_, rfl, rfl⟩, ⟨_, rfl, rfl⟩, ⟨_, rfl, rfl⟩, ⟨_, rfl, rfl⟩, trivial⟩ ⟨⟨_, _, rfl, rfl, rfl⟩, ⟨_, _, rfl, rfl, rfl⟩, trivial⟩ rfl fun h s => sub_front (m := [_, _, _, _]) s⟩
            · conv => whnf
              refine ⟨trivial, ⟨⟨rfl, rfl⟩, fun h s => sub_tail s⟩, ?_⟩
              conv => whnf
              refine ⟨trivial, CallAt.fn (pre := []) _ (fun h s => s) (fun R' hR' => hQ R' fun w s => (hR' w s).rest) ?_⟩
              rintro r hs ⟨bQ, cQ, rfl, rfl⟩
              conv => whnf
              refine ⟨trivial, ⟨⟨rfl, rfl⟩, fun h s => sub_two s⟩, ?_⟩
              conv => whnf
              refine ⟨trivial, trivial, ?_⟩
              conv => whnf
              exact ⟨trivial, ⟨bP, cP, bQ, cQ⟩, Le.pick [2, 3] rfl rfl rfl rfl ⟨⟨_, rfl, rfl⟩, ⟨_, rfl, rfl⟩, ⟨_, rfl, rfl⟩, ⟨_, rfl, rfl⟩, ⟨_, rfl, rfl⟩, ⟨_, rfl, rfl⟩, ⟨_, rfl, rfl⟩, trivial⟩ ⟨⟨_, _, rfl, rfl, rfl⟩, ⟨_, _, rfl, rfl, rfl⟩, trivial⟩ rfl fun h s => sub_front (m := [_, _, _, _]) s⟩
          · conv => whnf
            refine ⟨trivial, ⟨⟨rfl, rfl⟩, fun h s => sub_tail s⟩, ?_⟩
            conv => whnf
            refine ⟨?_, ?_⟩
            · conv => whnf
              refine ⟨trivial, CallAt.fn (pre := []) _ (fun h s => s) (fun R' hR' => hQ R' fun w s => (hR' w s).rest) ?_⟩
              rintro r hs ⟨bQ, cQ, rfl, rfl⟩
              conv => whnf
              refine ⟨trivial, ⟨⟨rfl, rfl⟩, fun h s => sub_two s⟩, ?_⟩
              conv => whnf
              refine ⟨trivial, ⟨⟨rfl, rfl⟩, fun h s => sub_two s⟩, ?_⟩
              conv => whnf
              refine ⟨trivial, trivial, ?_⟩
              conv => whnf
              exact ⟨trivial, ⟨bP, cP, bQ, cQ⟩, Le.pick [3, 2] rfl rfl rfl rfl ⟨⟨_, rfl, rfl⟩, ⟨_, rfl, rfl⟩, ⟨_, rfl, rfl⟩, ⟨_, rfl, rfl⟩, ⟨_, rfl, rfl⟩, ⟨_, rfl, rfl⟩, ⟨_, rfl, rfl⟩, trivial⟩ ⟨⟨_, _, rfl, rfl, rfl⟩, ⟨_, _, rfl, rfl, rfl⟩, trivial⟩ rfl fun h s => sub_front (m := [_, _, _, _]) s⟩
            · conv => whnf
              refine ⟨trivial, ⟨⟨rfl, rfl⟩, fun h s => sub_tail s⟩, ?_⟩
              conv => whnf
              refine ⟨trivial, CallAt.fn (pre := []) _ (fun h s => s) (fun R' hR' => hQ R' fun w s => (hR' w s).rest) ?_⟩
              rintro r hs ⟨bQ, cQ, rfl, rfl⟩
              conv => whnf
              refine ⟨trivial, ⟨⟨rfl, rfl⟩, fun h s => sub_two s⟩, ?_⟩
              conv => whnf
              refine ⟨trivial, trivial, ?_⟩
              conv => whnf
              exact ⟨trivial, ⟨bP, cP, bQ, cQ⟩, Le.pick [3, 2] rfl rfl rfl rfl ⟨⟨_, rfl, rfl⟩, ⟨_, rfl, rfl⟩, ⟨_, rfl, rfl⟩, ⟨_, rfl, rfl⟩, ⟨_, rfl, rfl⟩, ⟨_, rfl, rfl⟩, ⟨_, rfl, rfl⟩, trivial⟩ ⟨⟨_, _, rfl, rfl, rfl⟩, ⟨_, _, rfl, rfl, rfl⟩, trivial⟩ rfl fun h s => sub_front (m := [_, _, _, _]) s⟩
        · conv => whnf
          refine ⟨trivial, ⟨⟨rfl, rfl⟩, fun h s => sub_same s⟩, ?_⟩
          conv => whnf
          refine ⟨?_, ?_⟩
          · conv => whnf
            refine ⟨trivial, CallAt.fn (pre := []) _ (fun h s => s) (fun R' hR' => hP R' fun w s => (hR' w s).rest) ?_⟩
            rintro r hs ⟨bP, cP, rfl, rfl⟩
            conv => whnf
            refine ⟨trivial, ⟨⟨rfl, rfl⟩, fun h s => sub_tail s⟩, ?_⟩
            conv => whnf
            refine ⟨?_, ?_⟩
            · conv => whnf
              refine ⟨trivial, CallAt.fn (pre := []) _ (fun h s => s) (fun R' hR' => hQ R' fun w s => (hR' w s).rest) ?_⟩
              rintro r hs ⟨bQ, cQ, rfl, rfl⟩
              conv => whnf
              refine ⟨trivial, ⟨⟨rfl, rfl⟩, fun h s => sub_two s⟩, ?_⟩
              conv => whnf
              refine ⟨trivial, ⟨⟨rfl, rfl⟩, fun h s => sub_two s⟩, ?_⟩
              conv => whnf
              refine ⟨trivial, trivial, ?_⟩
              conv => whnf
              exact ⟨trivial, ⟨bP, cP, bQ, cQ⟩, Le.pick [2, 3] rfl rfl rfl rfl ⟨⟨_, rfl, rfl⟩, ⟨_, rfl, rfl⟩, ⟨_, rfl, rfl⟩, ⟨_, rfl, rfl⟩, ⟨_, rfl, rfl⟩, ⟨_, rfl, rfl⟩, ⟨_, rfl, rfl⟩, trivial⟩ ⟨⟨_, _, rfl, rfl, rfl⟩, ⟨_, _, rfl, rfl, rfl⟩, trivial⟩ rfl fun h s => sub_front (m := [_, _, _, _]) s⟩
            · conv => whnf
              refine ⟨trivial, ⟨⟨rfl, rfl⟩, fun h s => sub_tail s⟩, ?_⟩
              conv => whnf
              refine ⟨trivial, CallAt.fn (pre := []) _ (fun h s => s) (fun R' hR' => hQ R' fun w s => (hR' w s).rest) ?_⟩
              rintro r hs ⟨bQ, cQ, rfl, rfl⟩
              conv => whnf
              refine ⟨trivial, ⟨⟨rfl, rfl⟩, fun h s => sub_two s⟩, ?_⟩
              conv => whnf
              refine ⟨trivial, trivial, ?_⟩
              conv => whnf
              exact ⟨trivial, ⟨bP, cP, bQ, cQ⟩, Le.pick [2, 3] rfl rfl rfl rfl ⟨⟨_, rfl, rfl⟩, ⟨_, rfl, rfl⟩, ⟨_, rfl, rfl⟩, ⟨_, rfl, rfl⟩, ⟨_, rfl, rfl⟩, ⟨_, rfl, rfl⟩, ⟨_, rfl, rfl⟩, trivial⟩ ⟨⟨_, _, rfl, rfl, rfl⟩, ⟨_, _, rfl, rfl, rfl⟩, trivial⟩ rfl fun h s => sub_front (m := [_, _, _, _]) s⟩
          · conv => whnf
            refine ⟨trivial, ⟨⟨rfl, rfl⟩, fun h s => sub_same s⟩, ?_⟩
            conv => whnf
            refine ⟨trivial, CallAt.fn (pre := []) _ (fun h s => s) (fun R' hR' => hP R' fun w s => (hR' w s).rest) ?_⟩
            rintro r hs ⟨bP, cP, rfl, rfl⟩
            conv => whnf
            refine ⟨trivial, ⟨⟨rfl, rfl⟩, fun h s => sub_tail s⟩, ?_⟩
            conv => whnf
            refine ⟨trivial, CallAt.fn (pre := []) _ (fun h s => s) (fun R' hR' => hQ R' fun w s => (hR' w s).rest) ?_⟩
            rintro r hs ⟨bQ, cQ, rfl, rfl⟩
            conv => whnf
            refine ⟨trivial, ⟨⟨rfl, rfl⟩, fun h s => sub_two s⟩, ?_⟩
            conv => whnf
            refine ⟨trivial, trivial, ?_⟩
            conv => whnf
            exact ⟨trivial, ⟨bP, cP, bQ, cQ⟩, Le.pick [2, 3] rfl rfl rfl rfl ⟨⟨_, rfl, rfl⟩, ⟨_, rfl, rfl⟩, ⟨_, rfl, rfl⟩, ⟨_, rfl, rfl⟩, ⟨_, rfl, rfl⟩, ⟨_, rfl, rfl⟩, ⟨_, rfl, rfl⟩, trivial⟩ ⟨⟨_, _, rfl, rfl, rfl⟩, ⟨_, _, rfl, rfl, rfl⟩, trivial⟩ rfl fun h s => sub_front (m := [_, _, _, _]) s⟩
        · conv => whnf
          refine ⟨trivial, ⟨⟨rfl, rfl⟩, fun h s => sub_same s⟩, ?_⟩
          conv => whnf
          refine ⟨?_, ?_⟩
          · conv => whnf
            refine ⟨trivial, CallAt.fn (pre := []) _ (fun h s => s) (fun R' hR' => hP R' fun w s => (hR' w s).rest) ?_⟩
            rintro r hs ⟨bP, cP, rfl, rfl⟩
            conv => whnf
            refine ⟨trivial, ⟨⟨rfl, rfl⟩, fun h s => sub_tail s⟩, ?_⟩
            conv => whnf
            refine ⟨?_, ?_⟩
            · conv => whnf
              refine ⟨trivial, CallAt.fn (pre := []) _ (fun h s => s) (fun R' hR' => hQ R' fun w s => (hR' w s).rest) ?_⟩
              rintro r hs ⟨bQ, cQ, rfl, rfl⟩
              conv => whnf
              refine ⟨trivial, ⟨⟨rfl, rfl⟩, fun h s => sub_two s⟩, ?_⟩
              conv => whnf
              refine ⟨trivial, ⟨⟨rfl, rfl⟩, fun h s => sub_two s⟩, ?_⟩
              conv => whnf
              refine ⟨trivial, trivial, ?_⟩
              conv => whnf
              exact ⟨trivial, ⟨bP, cP, bQ, cQ⟩, Le.pick [3, 2] rfl rfl rfl rfl ⟨⟨_, rfl, rfl⟩, ⟨_, rfl, rfl⟩, ⟨_, rfl, rfl⟩, ⟨_, rfl, rfl⟩, ⟨_, rfl, rfl⟩, ⟨_, rfl, rfl⟩, ⟨_, rfl, rfl⟩, trivial⟩ ⟨⟨_, _, rfl, rfl, rfl⟩, ⟨_, _, rfl, rfl, rfl⟩, trivial⟩ rfl fun h s => sub_front (m := [_, _, _, _]) s⟩
            · conv => whnf
              refine ⟨trivial, ⟨⟨rfl, rfl⟩, fun h s => sub_tail s⟩, ?_⟩
              conv => whnf
              refine ⟨trivial, CallAt.fn (pre := []) _ (fun h s => s) (fun R' hR' => hQ R' fun w s => (hR' w s).rest) ?_⟩
              rintro r hs ⟨bQ, cQ, rfl, rfl⟩
              conv => whnf
              refine ⟨trivial, ⟨⟨rfl, rfl⟩, fun h s => sub_two s⟩, ?_⟩
              conv => whnf
              refine ⟨trivial, trivial, ?_⟩
              conv => whnf
              exact ⟨trivial, ⟨bP, cP, bQ, cQ⟩, Le.pick [3, 2] rfl rfl rfl rfl ⟨⟨_, rfl, rfl⟩, ⟨_, rfl, rfl⟩, ⟨_, rfl, rfl⟩, ⟨_, rfl, rfl⟩, ⟨_, rfl, rfl⟩, ⟨_, rfl, rfl⟩, ⟨_, rfl, rfl⟩, trivial⟩ ⟨⟨_, _, rfl, rfl, rfl⟩, ⟨_, _, rfl, rfl, rfl⟩, trivial⟩ rfl fun h s => sub_front (m := [_, _, _, _]) s⟩
          · conv => whnf
            refine ⟨trivial, ⟨⟨rfl, rfl⟩, fun h s => sub_same s⟩, ?_⟩
            conv => whnf
            refine ⟨trivial, CallAt.fn (pre := []) _ (fun h s => s) (fun R' hR' => hP R' fun w s => (hR' w s).rest) ?_⟩
            rintro r hs ⟨bP, cP, rfl, rfl⟩
            conv => whnf
            refine ⟨trivial, ⟨⟨rfl, rfl⟩, fun h s => sub_tail s⟩, ?_⟩
            conv => whnf
            refine ⟨trivial, CallAt.fn (pre := []) _ (fun h s => s) (fun R' hR' => hQ R' fun w s => (hR' w s).rest) ?_⟩
            rintro r hs ⟨bQ, cQ, rfl, rfl⟩
            conv => whnf
            refine ⟨trivial, ⟨⟨rfl, rfl⟩, fun h s => sub_two s⟩, ?_⟩
            conv => whnf
            refine ⟨trivial, trivial, ?_⟩
            conv => whnf
            exact ⟨trivial, ⟨bP, cP, bQ, cQ⟩, Le.pick [3, 2] rfl rfl rfl rfl ⟨⟨_, rfl, rfl⟩, ⟨_, rfl, rfl⟩, ⟨_, rfl, rfl⟩, ⟨_, rfl, rfl⟩, ⟨_, rfl, rfl⟩, ⟨_, rfl, rfl⟩, ⟨_, rfl, rfl⟩, trivial⟩ ⟨⟨_, _, rfl, rfl, rfl⟩, ⟨_, _, rfl, rfl, rfl⟩, trivial⟩ rfl fun h s => sub_front (m := [_, _, _, _]) s⟩
      · rintro ⟨bP, cP, bQ, cQ⟩
        dsimp only
        conv => whnf
        rw [over_gS hkl, over_gS hml]
        have hlP := (ovl_len l t).trans hml
        have hlQ := (ovl_len o s).trans hkl
        clear hP hQ
        have hIs : ∀ (R' : HP) (A : Option Addr) (c qb : Nat) (z : List Bool), (∀ w', Sat R' w' → Sat (was w) w') → QuadOf R' qb W H n (gS W H z) → z.length = W * H → (∀ w, Sat R' w → Sat (rowH (.slice A (W * H) c) (W * H) 4 1 (bls z)) w) → PureR Tryz.prog R' 15 [ptV qb, setV W H A (W * H) c] (.bool true) := fun R' A c qb z h hq hl hr => sIsQ (hTB R' h) hq ⟨w1, w2, h1, h2, hl, Sl.row hr⟩ hn hS (cnt_leaves hl w2 h2 hS)
        generalize ovl l t = PL at *
        generalize ovl o s = QL at *
        generalize hN : W * H = N at *
        refine ⟨trivial, LoopAt.of (α := QsS) [2, 21, 23, 25, 26, 27, 28, 29, 30] (fun a => [(31, .v (.int .i64 (a.i : Int)))]) (fun a => [(5, 37, [.v (.int .i64 W), .v (.int .i64 H), .v (.slice a.A4 a.i a.c4)]), (4, 37, [.v (.int .i64 W), .v (.int .i64 H), .v (.slice a.A3 a.i a.c3)]), (3, 37, [.v (.int .i64 W), .v (.int .i64 H), .v (.slice a.A2 a.i a.c2)]), (2, 37, [.v (.int .i64 W), .v (.int .i64 H), .v (.slice a.A1 a.i a.c1)]), (1, 37, [.v (.int .i64 W), .v (.int .i64 H), .v (.slice (some ⟨bQ, 0, none⟩) N cQ)]), (0, 37, [.v (.int .i64 W), .v (.int .i64 H), .v (.slice (some ⟨bP, 0, none⟩) N cP)])])
          (fun a => [rowH (.slice a.A4 a.i a.c4) a.i 4 1 (bls ((zipL (fun x _ => !x) PL QL).take a.i)), rowH (.slice a.A3 a.i a.c3) a.i 4 1 (bls ((zipL (fun x y => x && !y) PL QL).take a.i)), rowH (.slice a.A2 a.i a.c2) a.i 4 1 (bls ((zipL (fun x y => x || y) PL QL).take a.i)), rowH (.slice a.A1 a.i a.c1) a.i 4 1 (bls ((zipL (fun x y => x && y) PL QL).take a.i)), rowH (.slice (some ⟨bQ, 0, none⟩) N cQ) N 4 1 (bls QL), rowH (.slice (some ⟨bP, 0, none⟩) N cP) N 4 1 (bls PL), quadG q2 W H n (gS W H QL), quadG q1 W H n (gS W H PL)])
          (fun a => a.i ≤ N) (fun a => N - a.i) ⟨0, none, 0, none, 0, none, 0, none, 0⟩ (Nat.zero_le _)
          (Le.of (Nat.le_of_ble_eq_true rfl) (Nat.zero_le _) ⟨⟨rfl, rfl⟩, ⟨rfl, rfl⟩, ⟨rfl, rfl⟩, ⟨rfl, rfl⟩, ⟨rfl, rfl⟩, ⟨rfl, rfl⟩, ⟨rfl, rfl⟩, ⟨rfl, rfl⟩, ⟨rfl, rfl⟩, ⟨rfl, rfl⟩, trivial⟩ ⟨⟨rfl, rfl, rfl, rfl⟩, ⟨rfl, rfl, rfl, rfl⟩, ⟨rfl, rfl, rfl, rfl⟩, ⟨rfl, rfl, rfl, rfl⟩, ⟨rfl, rfl, rfl, rfl⟩, ⟨rfl, rfl, rfl, rfl⟩, trivial⟩ fun h s => sub_same (row_nil _ _ (row_nil _ _ (row_nil _ _ (row_nil _ _ s))))) ?_⟩
        rintro ⟨i, A1, c1, A2, c2, A3, c3, A4, c4⟩ hi
        simp only at hi
        dsimp only
        conv => whnf
        refine ⟨fun h => ?_, fun h => ?_⟩
        · have hin : i < N := by have := of_decide_eq_true h; omega
          have t1 := zipL_take (f := fun x y => x && y) (a := PL) (b := QL) (i := i) (by omega) (by omega)
          have t2 := zipL_take (f := fun x y => x || y) (a := PL) (b := QL) (i := i) (by omega) (by omega)
          have t3 := zipL_take (f := fun x y => x && !y) (a := PL) (b := QL) (i := i) (by omega) (by omega)
          have t4 := zipL_take (f := fun x _ => !x) (a := PL) (b := QL) (i := i) (by omega) (by omega)
          have hpc := fun w (h : Sat (rowH (.slice (some ⟨bP, 0, none⟩) N cP) N 4 1 (bls PL)) w) => row_cell h hlP (show i < PL.length by omega)
          have hqc := fun w (h : Sat (rowH (.slice (some ⟨bQ, 0, none⟩) N cQ) N 4 1 (bls QL)) w) => row_cell h hlQ (show i < QL.length by omega)
          generalize PL[i]'(by omega) = p at *
          generalize QL[i]'(by omega) = q at *
          conv => whnf
          generalize zipL (fun x y => x && y) PL QL = Z1 at *
          generalize zipL (fun x y => x || y) PL QL = Z2 at *
          generalize zipL (fun x y => x && !y) PL QL = Z3 at *
          generalize zipL (fun x _ => !x) PL QL = Z4 at *
          cases p with
          | true =>
            refine ⟨trivial, RegAt.groups [([.T 0, .T 1, .T 2, .T 3, .T 4, .T 5, .T 6, .T 7, .T 8, .T 9, .T 10, .T 11, .T 12, .T 13, .H 14], 15), ([.H 15], 16), ([.T 16], 17), ([.H 17], 18)] hmix (by kernel_rfl) ?_⟩
            conv => whnf
            refine ⟨(by (repeat' apply And.intro) <;> first | exact True.intro | (unfold rng; omega) | omega), LoadAt.cell (.bool true) rfl rfl (fun w hw => by have := hpc w (hw.in_ 5 rfl); simpa using this) ?_⟩
            conv => whnf
            repeat (first | (refine ⟨fun _ => ?_, fun h => absurd h (by decide)⟩; conv => whnf) | (refine ⟨fun h => absurd h (by decide), fun _ => ?_⟩; conv => whnf))
            refine ⟨(by (repeat' apply And.intro) <;> first | exact True.intro | (unfold rng; omega) | omega), LoadAt.cell (.bool q) rfl rfl (fun w hw => by have := hqc w (hw.in_ 4 rfl); simpa using this) ?_⟩
            conv => whnf
            refine ⟨(by (repeat' apply And.intro) <;> first | exact True.intro | (unfold rng; omega) | omega), OpAt.lit [.bool q] 1 rfl rfl rfl rfl rfl (by decide) rfl rfl rfl (by simp [Value.cells]) rfl (by decide) fun g => ?_⟩
            conv => whnf
            refine ⟨trivial, ⟨⟨rfl, rfl⟩, fun h s => sub_tail s⟩, ?_⟩
            conv => whnf
            refine ⟨trivial, OpAt.append (.slice A1 i c1) i 1 1 (bls (Z1.take i)) [.bool q] (some ⟨g, 0, none⟩) 1 1 _ rfl (fun h s => sepL_pull 4 s) rfl rfl rfl rfl rfl rfl rfl rfl rfl (by decide) (fun w hw => rowH_reads rfl (Sat.left hw)) (by simp [Value.oneCell']) (by simp only [maxLen]; omega) (by omega) fun B1 d1 => ?_⟩
            conv => whnf
            refine ⟨trivial, ?_⟩
            conv => whnf
            refine ⟨(by (repeat' apply And.intro) <;> first | exact True.intro | (unfold rng; omega) | omega), RegAt.groups [([.T 0, .T 1, .T 2, .T 3, .T 4, .T 5, .T 6, .T 7, .T 8, .T 9, .T 10, .T 11, .T 12, .T 13, .H 14], 15), ([.H 15], 16), ([.T 16], 17), ([.H 17], 18)] hmix (by kernel_rfl) ?_⟩
            conv => whnf
            refine ⟨(by (repeat' apply And.intro) <;> first | exact True.intro | (unfold rng; omega) | omega), LoadAt.cell (.bool true) rfl rfl (fun w hw => by have := hpc w (hw.in_ 6 rfl); simpa using this) ?_⟩
            conv => whnf
            repeat (first | (refine ⟨fun _ => ?_, fun h => absurd h (by decide)⟩; conv => whnf) | (refine ⟨fun h => absurd h (by decide), fun _ => ?_⟩; conv => whnf))
            refine ⟨(by (repeat' apply And.intro) <;> first | exact True.intro | (unfold rng; omega) | omega), OpAt.lit [.bool true] 1 rfl rfl rfl rfl rfl (by decide) rfl rfl rfl (by simp [Value.cells]) rfl (by decide) fun g => ?_⟩
            conv => whnf
            refine ⟨trivial, ⟨⟨rfl, rfl⟩, fun h s => sub_tail s⟩, ?_⟩
            conv => whnf
            refine ⟨trivial, OpAt.append (.slice A2 i c2) i 1 1 (bls (Z2.take i)) [.bool true] (some ⟨g, 0, none⟩) 1 1 _ rfl (fun h s => sepL_pull 5 s) rfl rfl rfl rfl rfl rfl rfl rfl rfl (by decide) (fun w hw => rowH_reads rfl (Sat.left hw)) (by simp [Value.oneCell']) (by simp only [maxLen]; omega) (by omega) fun B2 d2 => ?_⟩
            conv => whnf
            refine ⟨trivial, ?_⟩
            conv => whnf
            refine ⟨(by (repeat' apply And.intro) <;> first | exact True.intro | (unfold rng; omega) | omega), RegAt.groups [([.T 0, .T 1, .T 2, .T 3, .T 4, .T 5, .T 6, .T 7, .T 8, .T 9, .T 10, .T 11, .T 12, .T 13, .T 14, .H 15], 16), ([.H 16], 17), ([.T 17], 18), ([.H 18], 19)] hmix (by kernel_rfl) ?_⟩
            conv => whnf
            refine ⟨(by (repeat' apply And.intro) <;> first | exact True.intro | (unfold rng; omega) | omega), LoadAt.cell (.bool true) rfl rfl (fun w hw => by have := hpc w (hw.in_ 7 rfl); simpa using this) ?_⟩
            conv => whnf
            repeat (first | (refine ⟨fun _ => ?_, fun h => absurd h (by decide)⟩; conv => whnf) | (refine ⟨fun h => absurd h (by decide), fun _ => ?_⟩; conv => whnf))
            refine ⟨(by (repeat' apply And.intro) <;> first | exact True.intro | (unfold rng; omega) | omega), LoadAt.cell (.bool q) rfl rfl (fun w hw => by have := hqc w (hw.in_ 6 rfl); simpa using this) ?_⟩
            conv => whnf
            refine ⟨(by (repeat' apply And.intro) <;> first | exact True.intro | (unfold rng; omega) | omega), OpAt.lit [.bool (!q)] 1 rfl rfl rfl rfl rfl (by decide) rfl rfl rfl (by simp [Value.cells]) rfl (by decide) fun g => ?_⟩
            conv => whnf
            refine ⟨trivial, ⟨⟨rfl, rfl⟩, fun h s => sub_tail s⟩, ?_⟩
            conv => whnf
            refine ⟨trivial, OpAt.append (.slice A3 i c3) i 1 1 (bls (Z3.take i)) [.bool (!q)] (some ⟨g, 0, none⟩) 1 1 _ rfl (fun h s => sepL_pull 6 s) rfl rfl rfl rfl rfl rfl rfl rfl rfl (by decide) (fun w hw => rowH_reads rfl (Sat.left hw)) (by simp [Value.oneCell']) (by simp only [maxLen]; omega) (by omega) fun B3 d3 => ?_⟩
            conv => whnf
            refine ⟨trivial, ?_⟩
            conv => whnf
            refine ⟨(by (repeat' apply And.intro) <;> first | exact True.intro | (unfold rng; omega) | omega), RegAt.groups [([.T 0, .T 1, .T 2, .T 3, .T 4, .T 5, .T 6, .T 7, .H 8], 9), ([.H 9], 10), ([.T 10], 11), ([.H 11], 12)] hmix (by kernel_rfl) ?_⟩
            conv => whnf
            refine ⟨(by (repeat' apply And.intro) <;> first | exact True.intro | (unfold rng; omega) | omega), LoadAt.cell (.bool true) rfl rfl (fun w hw => by have := hpc w (hw.in_ 8 rfl); simpa using this) ?_⟩
            conv => whnf
            repeat (first | (refine ⟨fun _ => ?_, fun h => absurd h (by decide)⟩; conv => whnf) | (refine ⟨fun h => absurd h (by decide), fun _ => ?_⟩; conv => whnf))
            refine ⟨(by (repeat' apply And.intro) <;> first | exact True.intro | (unfold rng; omega) | omega), OpAt.lit [.bool false] 1 rfl rfl rfl rfl rfl (by decide) rfl rfl rfl (by simp [Value.cells]) rfl (by decide) fun g => ?_⟩
            conv => whnf
            refine ⟨trivial, ⟨⟨rfl, rfl⟩, fun h s => sub_tail s⟩, ?_⟩
            conv => whnf
            refine ⟨trivial, OpAt.append (.slice A4 i c4) i 1 1 (bls (Z4.take i)) [.bool false] (some ⟨g, 0, none⟩) 1 1 _ rfl (fun h s => sepL_pull 7 s) rfl rfl rfl rfl rfl rfl rfl rfl rfl (by decide) (fun w hw => rowH_reads rfl (Sat.left hw)) (by simp [Value.oneCell']) (by simp only [maxLen]; omega) (by omega) fun B4 d4 => ?_⟩
            conv => whnf
            refine ⟨trivial, ?_⟩
            conv => whnf
            refine ⟨(by (repeat' apply And.intro) <;> first | exact True.intro | (unfold rng; omega) | omega), .mk ⟨i + 1, B1, d1, B2, d2, B3, d3, B4, d4⟩ (by simp only; omega) (by simp only; omega) (Le.of (Nat.le_of_ble_eq_true rfl) (Nat.zero_le _) ⟨⟨rfl, rfl⟩, ⟨rfl, rfl⟩, ⟨rfl, rfl⟩, ⟨rfl, rfl⟩, ⟨rfl, rfl⟩, ⟨rfl, rfl⟩, ⟨rfl, rfl⟩, ⟨rfl, rfl⟩, ⟨rfl, rfl⟩, ⟨rfl, rfl⟩, trivial⟩ ⟨⟨rfl, rfl, rfl, rfl⟩, ⟨rfl, rfl, rfl, rfl⟩, ⟨rfl, rfl, rfl, rfl⟩, ⟨rfl, rfl, rfl, rfl⟩, ⟨rfl, rfl, rfl, rfl⟩, ⟨rfl, rfl, rfl, rfl⟩, trivial⟩ fun h s => ?_)⟩
            obtain ⟨h', e, s'⟩ := sub_four s
            refine ⟨h', e, ?_⟩
            dsimp only
            rw [t1, t2, t3, t4]
            exact s'
          | false =>
            refine ⟨trivial, RegAt.groups [([.T 0, .T 1, .T 2, .T 3, .T 4, .T 5, .T 6, .T 7, .T 8, .T 9, .T 10, .T 11, .T 12, .T 13, .H 14], 15), ([.H 15], 16), ([.T 16], 17), ([.H 17], 18)] hmix (by kernel_rfl) ?_⟩
            conv => whnf
            refine ⟨(by (repeat' apply And.intro) <;> first | exact True.intro | (unfold rng; omega) | omega), LoadAt.cell (.bool false) rfl rfl (fun w hw => by have := hpc w (hw.in_ 5 rfl); simpa using this) ?_⟩
            conv => whnf
            repeat (first | (refine ⟨fun _ => ?_, fun h => absurd h (by decide)⟩; conv => whnf) | (refine ⟨fun h => absurd h (by decide), fun _ => ?_⟩; conv => whnf))
            refine ⟨(by (repeat' apply And.intro) <;> first | exact True.intro | (unfold rng; omega) | omega), OpAt.lit [.bool false] 1 rfl rfl rfl rfl rfl (by decide) rfl rfl rfl (by simp [Value.cells]) rfl (by decide) fun g => ?_⟩
            conv => whnf
            refine ⟨trivial, ⟨⟨rfl, rfl⟩, fun h s => sub_tail s⟩, ?_⟩
            conv => whnf
            refine ⟨trivial, OpAt.append (.slice A1 i c1) i 1 1 (bls (Z1.take i)) [.bool false] (some ⟨g, 0, none⟩) 1 1 _ rfl (fun h s => sepL_pull 4 s) rfl rfl rfl rfl rfl rfl rfl rfl rfl (by decide) (fun w hw => rowH_reads rfl (Sat.left hw)) (by simp [Value.oneCell']) (by simp only [maxLen]; omega) (by omega) fun B1 d1 => ?_⟩
            conv => whnf
            refine ⟨trivial, ?_⟩
            conv => whnf
            refine ⟨(by (repeat' apply And.intro) <;> first | exact True.intro | (unfold rng; omega) | omega), RegAt.groups [([.T 0, .T 1, .T 2, .T 3, .T 4, .T 5, .T 6, .T 7, .T 8, .T 9, .T 10, .T 11, .T 12, .T 13, .H 14], 15), ([.H 15], 16), ([.T 16], 17), ([.H 17], 18)] hmix (by kernel_rfl) ?_⟩
            conv => whnf
            refine ⟨(by (repeat' apply And.intro) <;> first | exact True.intro | (unfold rng; omega) | omega), LoadAt.cell (.bool false) rfl rfl (fun w hw => by have := hpc w (hw.in_ 6 rfl); simpa using this) ?_⟩
            conv => whnf
            repeat (first | (refine ⟨fun _ => ?_, fun h => absurd h (by decide)⟩; conv => whnf) | (refine ⟨fun h => absurd h (by decide), fun _ => ?_⟩; conv => whnf))
            refine ⟨(by (repeat' apply And.intro) <;> first | exact True.intro | (unfold rng; omega) | omega), LoadAt.cell (.bool q) rfl rfl (fun w hw => by have := hqc w (hw.in_ 5 rfl); simpa using this) ?_⟩
            conv => whnf
            refine ⟨(by (repeat' apply And.intro) <;> first | exact True.intro | (unfold rng; omega) | omega), OpAt.lit [.bool q] 1 rfl rfl rfl rfl rfl (by decide) rfl rfl rfl (by simp [Value.cells]) rfl (by decide) fun g => ?_⟩
            conv => whnf
            refine ⟨trivial, ⟨⟨rfl, rfl⟩, fun h s => sub_tail s⟩, ?_⟩
            conv => whnf
            refine ⟨trivial, OpAt.append (.slice A2 i c2) i 1 1 (bls (Z2.take i)) [.bool q] (some ⟨g, 0, none⟩) 1 1 _ rfl (fun h s => sepL_pull 5 s) rfl rfl rfl rfl rfl rfl rfl rfl rfl (by decide) (fun w hw => rowH_reads rfl (Sat.left hw)) (by simp [Value.oneCell']) (by simp only [maxLen]; omega) (by omega) fun B2 d2 => ?_⟩
            conv => whnf
            refine ⟨trivial, ?_⟩
            conv => whnf
            refine ⟨(by (repeat' apply And.intro) <;> first | exact True.intro | (unfold rng; omega) | omega), RegAt.groups [([.T 0, .T 1, .T 2, .T 3, .T 4, .T 5, .T 6, .T 7, .T 8, .T 9, .T 10, .T 11, .T 12, .T 13, .T 14, .H 15], 16), ([.H 16], 17), ([.T 17], 18), ([.H 18], 19)] hmix (by kernel_rfl) ?_⟩
            conv => whnf
            refine ⟨(by (repeat' apply And.intro) <;> first | exact True.intro | (unfold rng; omega) | omega), LoadAt.cell (.bool false) rfl rfl (fun w hw => by have := hpc w (hw.in_ 7 rfl); simpa using this) ?_⟩
            conv => whnf
            repeat (first | (refine ⟨fun _ => ?_, fun h => absurd h (by decide)⟩; conv => whnf) | (refine ⟨fun h => absurd h (by decide), fun _ => ?_⟩; conv => whnf))
            refine ⟨(by (repeat' apply And.intro) <;> first | exact True.intro | (unfold rng; omega) | omega), OpAt.lit [.bool false] 1 rfl rfl rfl rfl rfl (by decide) rfl rfl rfl (by simp [Value.cells]) rfl (by decide) fun g => ?_⟩
            conv => whnf
            refine ⟨trivial, ⟨⟨rfl, rfl⟩, fun h s => sub_tail s⟩, ?_⟩
            conv => whnf
            refine ⟨trivial, OpAt.append (.slice A3 i c3) i 1 1 (bls (Z3.take i)) [.bool false] (some ⟨g, 0, none⟩) 1 1 _ rfl (fun h s => sepL_pull 6 s) rfl rfl rfl rfl rfl rfl rfl rfl rfl (by decide) (fun w hw => rowH_reads rfl (Sat.left hw)) (by simp [Value.oneCell']) (by simp only [maxLen]; omega) (by omega) fun B3 d3 => ?_⟩
            conv => whnf
            refine ⟨trivial, ?_⟩
            conv => whnf
            refine ⟨(by (repeat' apply And.intro) <;> first | exact True.intro | (unfold rng; omega) | omega), RegAt.groups [([.T 0, .T 1, .T 2, .T 3, .T 4, .T 5, .T 6, .T 7, .H 8], 9), ([.H 9], 10), ([.T 10], 11), ([.H 11], 12)] hmix (by kernel_rfl) ?_⟩
            conv => whnf
            refine ⟨(by (repeat' apply And.intro) <;> first | exact True.intro | (unfold rng; omega) | omega), LoadAt.cell (.bool false) rfl rfl (fun w hw => by have := hpc w (hw.in_ 8 rfl); simpa using this) ?_⟩
            conv => whnf
            repeat (first | (refine ⟨fun _ => ?_, fun h => absurd h (by decide)⟩; conv => whnf) | (refine ⟨fun h => absurd h (by decide), fun _ => ?_⟩; conv => whnf))
            refine ⟨(by (repeat' apply And.intro) <;> first | exact True.intro | (unfold rng; omega) | omega), OpAt.lit [.bool true] 1 rfl rfl rfl rfl rfl (by decide) rfl rfl rfl (by simp [Value.cells]) rfl (by decide) fun g => ?_⟩
            conv => whnf
            refine ⟨trivial, ⟨⟨rfl, rfl⟩, fun h s => sub_tail s⟩, ?_⟩
            conv => whnf
            refine ⟨trivial, OpAt.append (.slice A4 i c4) i 1 1 (bls (Z4.take i)) [.bool true] (some ⟨g, 0, none⟩) 1 1 _ rfl (fun h s => sepL_pull 7 s) rfl rfl rfl rfl rfl rfl rfl rfl rfl (by decide) (fun w hw => rowH_reads rfl (Sat.left hw)) (by simp [Value.oneCell']) (by simp only [maxLen]; omega) (by omega) fun B4 d4 => ?_⟩
            conv => whnf
            refine ⟨trivial, ?_⟩
            conv => whnf
            refine ⟨(by (repeat' apply And.intro) <;> first | exact True.intro | (unfold rng; omega) | omega), .mk ⟨i + 1, B1, d1, B2, d2, B3, d3, B4, d4⟩ (by simp only; omega) (by simp only; omega) (Le.of (Nat.le_of_ble_eq_true rfl) (Nat.zero_le _) ⟨⟨rfl, rfl⟩, ⟨rfl, rfl⟩, ⟨rfl, rfl⟩, ⟨rfl, rfl⟩, ⟨rfl, rfl⟩, ⟨rfl, rfl⟩, ⟨rfl, rfl⟩, ⟨rfl, rfl⟩, ⟨rfl, rfl⟩, ⟨rfl, rfl⟩, trivial⟩ ⟨⟨rfl, rfl, rfl, rfl⟩, ⟨rfl, rfl, rfl, rfl⟩, ⟨rfl, rfl, rfl, rfl⟩, ⟨rfl, rfl, rfl, rfl⟩, ⟨rfl, rfl, rfl, rfl⟩, ⟨rfl, rfl, rfl, rfl⟩, trivial⟩ fun h s => ?_)⟩
            obtain ⟨h', e, s'⟩ := sub_four s
            refine ⟨h', e, ?_⟩
            dsimp only
            rw [t1, t2, t3, t4]
            exact s'
        · have hin : i = N := by have := of_decide_eq_false h; omega
          subst hin
          have z1 : (zipL (fun x y => x && y) PL QL).take i = _ := List.take_of_length_le (by rw [zipL_len hlP hlQ]; exact Nat.le_refl _)
          have z2 : (zipL (fun x y => x || y) PL QL).take i = _ := List.take_of_length_le (by rw [zipL_len hlP hlQ]; exact Nat.le_refl _)
          have z3 : (zipL (fun x y => x && !y) PL QL).take i = _ := List.take_of_length_le (by rw [zipL_len hlP hlQ]; exact Nat.le_refl _)
          have z4 : (zipL (fun x _ => !x) PL QL).take i = _ := List.take_of_length_le (by rw [zipL_len hlP hlQ]; exact Nat.le_refl _)
          rw [z1, z2, z3, z4]
          conv => whnf
          have e : W * H = i := hN
          refine ⟨trivial, CallAt.fn (pre := []) _ (fun h s => s) (fun R' hR' => sAndG (quadOf_at 7 hR' rfl) (quadOf_at 6 hR' rfl)) ?_⟩
          rintro r hs ⟨qa, rfl, rfl⟩
          conv => whnf
          refine ⟨trivial, CallAt.fn (pre := []) _ (fun h s => s) (fun R' hR' => sOrG (quadOf_at 8 hR' rfl) (quadOf_at 7 hR' rfl) (by omega) hS) ?_⟩
          rintro r hs ⟨qo, rfl, rfl⟩
          conv => whnf
          refine ⟨trivial, CallAt.fn (pre := []) _ (fun h s => s) (fun R' hR' => sLessG (quadOf_at 9 hR' rfl) (quadOf_at 8 hR' rfl) (by omega) hS) ?_⟩
          rintro r hs ⟨ql, rfl, rfl⟩
          conv => whnf
          refine ⟨trivial, CallAt.fn (pre := []) _ (fun h s => s) (fun R' hR' => sNotG (quadOf_at 10 hR' rfl) (by omega) hS) ?_⟩
          rintro r hs ⟨qn, rfl, rfl⟩
          conv => whnf
          refine ⟨trivial, CallAt.fn (pre := []) _ (fun h s => s) (fun R' hR' => sNotG ((quadOf_at 0 hR' rfl).canon (gs_not (hlP.trans hN.symm) (hlQ.trans hN.symm))) (by omega) hS) ?_⟩
          rintro r hs ⟨qm, rfl, rfl⟩
          conv => whnf
          repeat (first | (refine And.intro ?_ ?_; rotate_left; (focus (intro g; exfalso; first | (simp at g; done) | (simp at g; omega) | (revert g; decide))); intro _; conv => whnf) | (refine And.intro ?_ ?_; (focus (intro g; exfalso; first | (simp at g; done) | (simp at g; omega) | (revert g; decide))); intro _; conv => whnf))
          refine ⟨trivial, CallAt.pure (fun R' hR' => hIs R' _ _ qa _ (fun w s => (hR' w s).rest) ((quadOf_at 4 hR' rfl).canon (gs_and (hlP.trans hN.symm) (hlQ.trans hN.symm))) (zipL_len hlP hlQ) (fun w s => (hR' w s).in_ 8 rfl)) ?_⟩
          conv => whnf
          repeat (first | (refine And.intro ?_ ?_; rotate_left; (focus (intro g; exfalso; first | (simp at g; done) | (simp at g; omega) | (revert g; decide))); intro _; conv => whnf) | (refine And.intro ?_ ?_; (focus (intro g; exfalso; first | (simp at g; done) | (simp at g; omega) | (revert g; decide))); intro _; conv => whnf))
          refine ⟨trivial, CallAt.pure (fun R' hR' => hIs R' _ _ qo _ (fun w s => (hR' w s).rest) ((quadOf_at 3 hR' rfl).canon (gs_or (hlP.trans hN.symm) (hlQ.trans hN.symm))) (zipL_len hlP hlQ) (fun w s => (hR' w s).in_ 7 rfl)) ?_⟩
          conv => whnf
          repeat (first | (refine And.intro ?_ ?_; rotate_left; (focus (intro g; exfalso; first | (simp at g; done) | (simp at g; omega) | (revert g; decide))); intro _; conv => whnf) | (refine And.intro ?_ ?_; (focus (intro g; exfalso; first | (simp at g; done) | (simp at g; omega) | (revert g; decide))); intro _; conv => whnf))
          refine ⟨trivial, CallAt.pure (fun R' hR' => hIs R' _ _ ql _ (fun w s => (hR' w s).rest) ((quadOf_at 2 hR' rfl).canon (gs_less (hlP.trans hN.symm) (hlQ.trans hN.symm))) (zipL_len hlP hlQ) (fun w s => (hR' w s).in_ 6 rfl)) ?_⟩
          conv => whnf
          repeat (first | (refine And.intro ?_ ?_; rotate_left; (focus (intro g; exfalso; first | (simp at g; done) | (simp at g; omega) | (revert g; decide))); intro _; conv => whnf) | (refine And.intro ?_ ?_; (focus (intro g; exfalso; first | (simp at g; done) | (simp at g; omega) | (revert g; decide))); intro _; conv => whnf))
          refine ⟨trivial, CallAt.pure (fun R' hR' => hIs R' _ _ qn _ (fun w s => (hR' w s).rest) ((quadOf_at 1 hR' rfl).canon (gs_not (hlP.trans hN.symm) (hlQ.trans hN.symm))) (zipL_len hlP hlQ) (fun w s => (hR' w s).in_ 5 rfl)) ?_⟩
          conv => whnf
          repeat (first | (refine And.intro ?_ ?_; rotate_left; (focus (intro g; exfalso; first | (simp at g; done) | (simp at g; omega) | (revert g; decide))); intro _; conv => whnf) | (refine And.intro ?_ ?_; (focus (intro g; exfalso; first | (simp at g; done) | (simp at g; omega) | (revert g; decide))); intro _; conv => whnf))
          refine ⟨trivial, CallAt.pure (fun R' hR' => hIs R' _ _ qm _ (fun w s => (hR' w s).rest) ((quadOf_at 0 hR' rfl).canon (gs_back (hlP.trans hN.symm) (hlQ.trans hN.symm))) hlP (fun w s => (hR' w s).in_ 10 rfl)) ?_⟩
          conv => whnf
          repeat (first | (refine And.intro ?_ ?_; rotate_left; (focus (intro g; exfalso; first | (simp at g; done) | (simp at g; omega) | (revert g; decide))); intro _; conv => whnf) | (refine And.intro ?_ ?_; (focus (intro g; exfalso; first | (simp at g; done) | (simp at g; omega) | (revert g; decide))); intro _; conv => whnf))
          refine ⟨trivial, CallAt.pure (fun R' hR' => hIs R' _ _ q1 _ (fun w s => (hR' w s).rest) (quadOf_at 12 hR' rfl) hlP (fun w s => (hR' w s).in_ 10 rfl)) ?_⟩
          conv => whnf
          repeat (first | (refine And.intro ?_ ?_; rotate_left; (focus (intro g; exfalso; first | (simp at g; done) | (simp at g; omega) | (revert g; decide))); intro _; conv => whnf) | (refine And.intro ?_ ?_; (focus (intro g; exfalso; first | (simp at g; done) | (simp at g; omega) | (revert g; decide))); intro _; conv => whnf))
          refine ⟨trivial, CallAt.pure (fun R' hR' => hIs R' _ _ q2 _ (fun w s => (hR' w s).rest) (quadOf_at 11 hR' rfl) hlQ (fun w s => (hR' w s).in_ 9 rfl)) ?_⟩
          conv => whnf
          exact ⟨trivial, fin_drop rfl⟩
    · refine fn_of_run0 false Tryz.func3 rfl hmix rfl fun w0 => ?_
      conv => whnf
      refine ⟨trivial, CallAt.pure (fun R' hR' => haw R' hR') ?_⟩
      conv => whnf
      refine iff_f rfl ?_
      conv => whnf
      refine ⟨trivial, CallAt.pure (fun R' hR' => sLandYes (hv.mono fun w s => hR' w s) (by decide) hm hok) ?_⟩
      conv => whnf
      refine ⟨trivial, CallAt.pure (fun R' hR' => sLandNo (hu.mono fun w s => hR' w s) (by decide) hk hok2) ?_⟩
      conv => whnf
      repeat (first | (refine ⟨fun _ => ?_, fun h => absurd h (by decide)⟩; conv => whnf) | (refine ⟨fun h => absurd h (by decide), fun _ => ?_⟩; conv => whnf))
      exact ⟨trivial, fin_drop rfl⟩
  · refine fn_of_run0 false Tryz.func3 rfl hmix rfl fun w0 => ?_
    conv => whnf
    refine ⟨trivial, CallAt.pure (fun R' hR' => haw R' hR') ?_⟩
    conv => whnf
    refine iff_f rfl ?_
    conv => whnf
    refine ⟨trivial, CallAt.pure (fun R' hR' => sLandNo (hv.mono fun w s => hR' w s) (by decide) hm hok) ?_⟩
    conv => whnf
    by_cases hok2 : LandOk W H 300 k o
    · refine ⟨trivial, CallAt.pure (fun R' hR' => sLandYes (hu.mono fun w s => hR' w s) (by decide) hk hok2) ?_⟩
      conv => whnf
      repeat (first | (refine ⟨fun _ => ?_, fun h => absurd h (by decide)⟩; conv => whnf) | (refine ⟨fun h => absurd h (by decide), fun _ => ?_⟩; conv => whnf))
      exact ⟨trivial, fin_drop rfl⟩
    · refine ⟨trivial, CallAt.pure (fun R' hR' => sLandNo (hu.mono fun w s => hR' w s) (by decide) hk hok2) ?_⟩
      conv => whnf
      repeat (first | (refine ⟨fun _ => ?_, fun h => absurd h (by decide)⟩; conv => whnf) | (refine ⟨fun h => absurd h (by decide), fun _ => ?_⟩; conv => whnf))
      exact ⟨trivial, fin_drop rfl⟩
end Go.Proofs.YtojlgfkjnkjcmaaGreatDoor

/-
  What the quad's rows give: the table of the numbers.
-/
namespace Go.Proofs.YtojlgfkjnkjcmaaGreatDoor
open Go.ChangeShapes Go.WideShapes Go.ChangeAt Go.RowKit Go.Joins Sy
set_option linter.unusedVariables false
set_option linter.unusedSimpArgs false
set_option maxRecDepth 100000
set_option maxHeartbeats 4000000

abbrev L3 : List (String × DataW Unit) := [("math/bits.deBruijn32tab", Rows.laid_math_bits_deBruijn32tab), ("math/bits.deBruijn64tab", Rows.laid_math_bits_deBruijn64tab), ("internal/strconv.uint64pow10", Rows.laid_internal_strconv_uint64pow10)]
theorem quad_of_laid {W : World} (h : laidMetH Tryz.prog L3 W) : TabW W := by
  rw [MakeChecks.laidMetH_plain _ _ _ (by kernel_rfl)] at h
  have h3 := h.tail.tail
  exact Lib.tabIs_of_head (n := 20) (e := 81) (t := 182) (g := 0) (by kernel_rfl) (by kernel_rfl) Tryz.underlying182 Tryz.underlying81 (by kernel_rfl) (by kernel_rfl) h3
theorem quad_door (os : Os) (args : Array Value) : laidMetH Tryz.prog L3 ((World.doorLaid Tryz.prog 400 os).forCall (fun _ _ => 0) ⟨#[], args, []⟩).memory :=
  laidMetH_of_parts3 (fuel := 8) (laidMet_of_run' 8 (by kernel_rfl) (by kernel_rfl)) (by kernel_rfl) (by kernel_rfl)
end Go.Proofs.YtojlgfkjnkjcmaaGreatDoor

/-
  The statement of hachurelaw50.QuadSets: for every input the call returns true, and each argument reads afterwards as it read before. The row's own frame round the walk 'QuadSets_walk'.
-/
namespace Go.Proofs.YtojlgfkjnkjcmaaGreatDoor.quadSetsRow
open Go.Proofs.YtojlgfkjnkjcmaaGreatDoor
open Go.ChangeShapes Go.WideShapes Go.ChangeAt Go.RowKit Go.Joins
set_option linter.unusedVariables false

theorem own : ownKnob Tryz.prog.godebug = none := by kernel_rfl
theorem laidOut : laidOutB Tryz.prog = true := by kernel_rfl


set_option maxRecDepth 100000 in
theorem lifted (os : Os) (started : os.Started) (H : Type) (enc : TypeId × Value → H) :
    ReturnsInHanded {} Tryz.checked os 3 .any (fun w args => (Rows.quadSetsSpec.pre enc Tryz.prog Tryz.f3 [] false w args ∧ laidMetH Tryz.prog L3 w) ∧ sizedMet enc Tryz.prog Tryz.f3 (OpenSpec.ofChange Rows.quadSetsSpec) false w args)
      (Rows.quadSetsSpec.post enc Tryz.prog Tryz.f3 false true false false) := by
  refine returnsInHanded_of_change_and (C := Tryz.checked) (X := fun w _ => laidMetH Tryz.prog L3 w) (fun _ _ _ hh h => h.of_heap hh) own started (by kernel_rfl) Tryz.func3
    (ChangeSpec.witness_shaped (enc := enc) (C := Tryz.checked) (os := os) (X := fun w _ => laidMetH Tryz.prog L3 w) false (World.doorLaid Tryz.prog 400 os) #[.int .i64 0, .int .i64 0, .slice none 0 0, .slice none 0 0, .int .i64 0, .int .i64 0] 8 rfl (World.shaped_of_RefB (by kernel_rfl) (by kernel_rfl)) (by kernel_rfl) (by kernel_rfl) (by kernel_rfl) (quad_door os _)) ?_
  intro W base args ds gs before hval0 hW _ _ hL _
  have hval : ∀ (j : Nat) t v, Tryz.f3.params[j]? = some t → args[j]? = some v → Value.okWide Tryz.prog W .any base t v := hval0
  have hW' := hW
  obtain ⟨p, q, hA0, hV, rfl, hfz, hnd⟩ := hW
  have hA : DataW.TrodAll enc Tryz.prog W 0 (fun _ => true) true Tryz.f3.params.toList args.toList ds p := hA0
  rw [Tryz.params3] at hA hval
  obtain ⟨v0, vs0, d0, ds0, p0, q0, hargs, rfl, rfl, h0, r0⟩ := trodAll_cons hA
  obtain ⟨v1, vs1, d1, ds1, p1, q1, rfl, rfl, rfl, h1, r1⟩ := trodAll_cons r0
  obtain ⟨v2, vs2, d2, ds2, p2, q2, rfl, rfl, rfl, h2, r2⟩ := trodAll_cons r1
  obtain ⟨v3, vs3, d3, ds3, p3, q3, rfl, rfl, rfl, h3, r3⟩ := trodAll_cons r2
  obtain ⟨v4, vs4, d4, ds4, p4, q4, rfl, rfl, rfl, h4, r4⟩ := trodAll_cons r3
  obtain ⟨v5, vs5, d5, ds5, p5, q5, rfl, rfl, rfl, h5, r5⟩ := trodAll_cons r4
  obtain ⟨rfl, rfl, rfl⟩ := trodAll_nil r5
  obtain rfl : args = #[v0, v1, v2, v3, v4, v5] := by cases args; simp_all
  obtain ⟨rfl, rfl⟩ := trodVars_none hV
  have k0 := h0
  have lt0 : ∀ x ∈ p0, x.block < W.heap.size := by obtain ⟨m, hm⟩ := k0; exact DataW.trod_lt m _ _ _ hm
  have k1 := h1
  have lt1 : ∀ x ∈ p1, x.block < W.heap.size := by obtain ⟨m, hm⟩ := k1; exact DataW.trod_lt m _ _ _ hm
  have k2 := h2
  have lt2 : ∀ x ∈ p2, x.block < W.heap.size := by obtain ⟨m, hm⟩ := k2; exact DataW.trod_lt m _ _ _ hm
  have k3 := h3
  have lt3 : ∀ x ∈ p3, x.block < W.heap.size := by obtain ⟨m, hm⟩ := k3; exact DataW.trod_lt m _ _ _ hm
  have k4 := h4
  have lt4 : ∀ x ∈ p4, x.block < W.heap.size := by obtain ⟨m, hm⟩ := k4; exact DataW.trod_lt m _ _ _ hm
  have k5 := h5
  have lt5 : ∀ x ∈ p5, x.block < W.heap.size := by obtain ⟨m, hm⟩ := k5; exact DataW.trod_lt m _ _ _ hm
  obtain ⟨a0, rfl, rfl, rfl, w0⟩ := open_int Tryz.underlying2 (hval 0 2 v0 rfl rfl) h0
  have b0 := bounds_i64 w0
  obtain ⟨a1, rfl, rfl, rfl, w1⟩ := open_int Tryz.underlying2 (hval 1 2 v1 rfl rfl) h1
  have b1 := bounds_i64 w1
  obtain ⟨a2, len2, cap2, rfl⟩ := okWide_slice Tryz.underlying22 (hval 2 22 v2 rfl rfl)
  obtain ⟨l2, hl2, hn2⟩ : ∃ l, Reads W W.heap.size 1 a2 len2 (ints l) ∧ len2 ≤ maxLen := by
    obtain ⟨fuel, hf⟩ := h2
    rcases open_ints Tryz.underlying22 Tryz.underlying2 (by kernel_rfl) hf with ⟨hcs, _⟩ | ⟨x, l, c, zs, hcs, _, hl, hm, hz, _, hcell, hwz⟩
    · simp [Value.cells] at hcs
      obtain ⟨rfl, rfl, rfl⟩ := hcs
      exact ⟨[], Reads.empty, by simp [maxLen]⟩
    · simp [Value.cells] at hcs
      obtain ⟨rfl, rfl, rfl⟩ := hcs
      obtain ⟨l, hl2⟩ := ints_of hl (by simpa using hz) hcell
      exact ⟨l, hl2, Nat.le_trans hl hm⟩
  obtain ⟨a3, len3, cap3, rfl⟩ := okWide_slice Tryz.underlying22 (hval 3 22 v3 rfl rfl)
  obtain ⟨l3, hl3, hn3⟩ : ∃ l, Reads W W.heap.size 1 a3 len3 (ints l) ∧ len3 ≤ maxLen := by
    obtain ⟨fuel, hf⟩ := h3
    rcases open_ints Tryz.underlying22 Tryz.underlying2 (by kernel_rfl) hf with ⟨hcs, _⟩ | ⟨x, l, c, zs, hcs, _, hl, hm, hz, _, hcell, hwz⟩
    · simp [Value.cells] at hcs
      obtain ⟨rfl, rfl, rfl⟩ := hcs
      exact ⟨[], Reads.empty, by simp [maxLen]⟩
    · simp [Value.cells] at hcs
      obtain ⟨rfl, rfl, rfl⟩ := hcs
      obtain ⟨l, hl2⟩ := ints_of hl (by simpa using hz) hcell
      exact ⟨l, hl2, Nat.le_trans hl hm⟩
  obtain ⟨a4, rfl, rfl, rfl, w4⟩ := open_int Tryz.underlying2 (hval 4 2 v4 rfl rfl) h4
  have b4 := bounds_i64 w4
  obtain ⟨a5, rfl, rfl, rfl, w5⟩ := open_int Tryz.underlying2 (hval 5 2 v5 rfl rfl) h5
  have b5 := bounds_i64 w5
  clear hA0 hval0
  refine (QuadSets_walk a0 a1 a2 len2 cap2 l2 a3 len3 cap3 l3 a4 a5 W (quad_of_laid hL) hl2 hn2 hl3 hn3).mono fun e W' ⟨he, bel⟩ => ?_
  subst he
  exact ⟨_, rfl, _, _, _, [], _, [], hW', trodAll_mk1 (shut_bool Tryz.underlying4 _), (trodAll_cons_mk (Below.trod laidOut (by kernel_rfl) (of_decide_eq_true (by kernel_rfl)) k0 bel lt0) (trodAll_cons_mk (Below.trod laidOut (by kernel_rfl) (of_decide_eq_true (by kernel_rfl)) k1 bel lt1) (trodAll_cons_mk (Below.trod laidOut (by kernel_rfl) (of_decide_eq_true (by kernel_rfl)) k2 bel lt2) (trodAll_cons_mk (Below.trod laidOut (by kernel_rfl) (of_decide_eq_true (by kernel_rfl)) k3 bel lt3) (trodAll_cons_mk (Below.trod laidOut (by kernel_rfl) (of_decide_eq_true (by kernel_rfl)) k4 bel lt4) (trodAll_cons_mk (Below.trod laidOut (by kernel_rfl) (of_decide_eq_true (by kernel_rfl)) k5 bel lt5) trodAll_mk0)))))), rfl, bel.frame _, fun h => by cases h⟩

theorem over : Rows.quadSetsRow.holds Tryz.pinned (OpenSpec.ofChange Rows.quadSetsSpec) :=
  OpenClaim.holds_of_wide 3 Tryz.f3 rfl rfl rfl rfl rfl rfl rfl ⟨rfl, rfl, rfl, rfl, rfl⟩ rfl rfl rfl rfl rfl (by kernel_rfl) Tryz.func3 (by kernel_rfl)
    (of_decide_eq_true (by kernel_rfl)) (by unfold Func.isWrapper; first | (rw [if_pos (by decide +kernel)]; kernel_rfl) | (rw [if_neg (by decide +kernel)]; exact ⟨rfl, rfl⟩))
    (fun os started H enc _ => lifted os started H enc)
end Go.Proofs.YtojlgfkjnkjcmaaGreatDoor.quadSetsRow
namespace Go.Proofs.YtojlgfkjnkjcmaaGreatDoor

theorem quadSets_said : Rows.QuadSetsSaid := quadSetsRow.over
theorem quadSets_holds : Rows.QuadSetsCardSaid :=
  Claim7.holds_tied_plain_at .later [] [.data, .data, .data] true _ true
    quadSets_said (fun _ h => by cases h) (by kernel_rfl) (fun _ h => by cases h) quadSets_row_tie rfl ⟨rfl, rfl⟩ (by kernel_rfl) rfl
    (fun f fn hf hfn => by
      obtain rfl : f = 3 := Option.some.inj ((show Tryz.prog.funcNamed "hachure/hachurelaw50.QuadSets" = some 3 by kernel_rfl).symm.trans hf) |>.symm
      obtain rfl : fn = Tryz.f3 := (Option.some.inj (Tryz.func3.symm.trans hfn)).symm
      exact ⟨by kernel_rfl, fun j t ht => by
        rw [Tryz.params3] at ht
        have hm : t ∈ [2, 2, 22, 22, 2, 2] := by simpa using Array.mem_of_getElem? ht
        have hall : ([2, 2, 22, 22, 2, 2].all fun u => !Tryz.prog.wantsStandIn u) = true := by kernel_rfl
        exact (show Tryz.prog.wantsStandIn t = false by simpa using List.all_eq_true.1 hall t hm)⟩)
    (by kernel_rfl)
#print axioms quadSets_holds
end Go.Proofs.YtojlgfkjnkjcmaaGreatDoor

