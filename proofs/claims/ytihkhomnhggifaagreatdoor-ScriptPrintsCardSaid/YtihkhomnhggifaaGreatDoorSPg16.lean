/-
  Texts of the proofs, one behind the other: ScFa.
-/
import Derived.Test.YtihkhomnhggifaaGreatDoorSPg13
import Derived.Test.YtihkhomnhggifaaGreatDoorSPg03
/-
  script: a line that is taken, where a word lacks or is no number: a fault is thrown.
-/
namespace Go.Proofs.YtihkhomnhggifaaGreatDoor
open Go.RowKit
open Sy
set_option linter.unusedVariables false
set_option linter.unusedSimpArgs false
set_option maxRecDepth 100000
set_option maxHeartbeats 4000000

def thrownCh : List PanicEntry := [{ v := .iface 72 (.agg #[.int .i64 12]), recovered := false }]
abbrev isThrown (ch : List PanicEntry) : Prop := ch = thrownCh
theorem PanR.untk {P : Program} {R : HP} {f : FuncId} {args : List Value} {l : List HP} {X : List PanicEntry → Prop} {RX : HP} {lb b off n c k : Nat} (h : ∀ A, (A = some ⟨b, off + k, none⟩ ∨ k = n) → PanR P R f args (lnT lb A (n - k) (c - k) :: l) X RX) : PanR P R f args (tkH lb b off n c k :: l) X RX := by
  rintro w ⟨g, g1, h1, h2, d, rfl, ⟨A, hA, a⟩, s⟩
  exact h A hA w ⟨_, g1, h1, h2, d, rfl, a, s⟩
theorem PanR.of_sat {P : Program} {R : HP} {f : FuncId} {args : List Value} {pre : List HP} {X : List PanicEntry → Prop} {RX : HP} (h : ∀ w, Sat (sepL pre R) w → PanR P R f args pre X RX) : PanR P R f args pre X RX := fun w s => h w s w s
/-- a call that panics, and takes nothing -/
theorem CallAt.panS {G : Gl} {f : FuncId} {args : List Value} {st : St} {K : SV → St → Prop} {X : List PanicEntry → Prop} (hc : ∀ R' : HP, (∀ w, Sat R' w → Sat (sepL st.h G.R) w) → PanR G.P R' f args [] X R') (hX : ∀ ch, X ch → G.X ch) (hRX : ∀ w, Sat (sepL st.h G.R) w → Sat G.RX w) (ha : axAt G.AX st) : CallAt G f args st K := by
  refine .px ha fun ρ w mm => ?_
  obtain ⟨h, h1, h2, _⟩ := mm.hp
  refine Calls.mono (hc (sepL st.h G.R) (fun w s => s) w ⟨h, h1, h2⟩) ?_
  rintro e w' ⟨ch, rfl, k1, k2, k3⟩
  exact ⟨ch, rfl, hX _ k1, hRX _ k2, mm.wd.trans k3⟩
/-- a call that panics, and takes some parts -/
theorem CallAt.panT {G : Gl} {f : FuncId} {args : List Value} {st : St} {K : SV → St → Prop} {pre : List HP} {X : List PanicEntry → Prop} (rest : List HP) (hp : ∀ h, sepL st.h G.R h → sepL (pre ++ rest) G.R h) (hc : ∀ R' : HP, (∀ w, Sat R' w → Sat (sepL rest G.R) w) → PanR G.P R' f args pre X R') (hX : ∀ ch, X ch → G.X ch) (hRX : ∀ w, Sat (sepL rest G.R) w → Sat G.RX w) (ha : axAt G.AX st) : CallAt G f args st K :=
  CallAt.pan rest hp (RX := sepL rest G.R) (fun R' hR' w s => (hc R' hR' w s).mono fun e w' ⟨ch, h1, h2, h3, h4⟩ => ⟨ch, h1, h2, hR' w' h3, h4⟩) hX hRX ha

/-- a word lacks, or is no number -/
def BadW (ws : List (List UInt8)) (k : Nat) : Prop := k = ws.length ∨ ∃ z, ws[k]? = some z ∧ z.length ≤ 1048576 ∧ (read z).2 ≠ 0
theorem sWordNo {R : HP} {lb b off n c : Nat} (s : ByteArray) : PanR Tryz.prog R 45 [.pointer (some ⟨lb, 0, none⟩), .string s] [tkH lb b off n c n] isThrown R := by
  refine PanR.untk fun A hA => ?_
  refine pan_of_run0 _ _ false Tryz.func45 rfl hmix rfl fun w0 => ?_
  conv => whnf
  refine ⟨trivial, LoadAt.cell (.bool true) rfl rfl (fun w hw => blk_cell (hw.in_ 0 rfl) rfl) ?_⟩
  conv => whnf
  refine iff_f rfl ?_
  conv => whnf
  refine ⟨trivial, LoadAt.cell (.slice A (n - n) (c - n)) rfl rfl (fun w hw => blk_cell (hw.in_ 0 rfl) rfl) ?_⟩
  conv => whnf
  refine iff_t (decide_eq_true (by omega)) ?_
  conv => whnf
  exact ⟨trivial, OpAt.panic 72 (.agg #[.int .i64 12]) rfl rfl rfl rfl (fun w s => s.rest) trivial⟩
theorem sNumberNo {R : HP} (hN : ∀ w, Sat R w → NumW w) (z : List UInt8) (hl : z.length ≤ 1048576) (h : (read z).2 ≠ 0) : PanR Tryz.prog R 49 [.string (bs z)] [] isThrown R := by
  have hr := fun R' (h' : ∀ w, Sat R' w → Sat R w) => sRead (R := R') (fun w s => hN w (h' w s)) z hl
  refine pan_of_run0 _ _ false Tryz.func49 rfl hmix rfl fun w0 => ?_
  conv => whnf
  refine ⟨trivial, CallAt.pure (fun R' hR' => hr R' hR') ?_⟩
  conv => whnf
  refine iff_t (by simpa using h) ?_
  conv => whnf
  exact ⟨trivial, OpAt.panic 72 (.agg #[.int .i64 12]) rfl rfl rfl rfl (fun w s => s) trivial⟩
theorem sNumbersNo {R : HP} {lb b off n c k ob : Nat} {tb : TypeId} {cs : Array Value} {A : Option Addr} {m ca : Nat} {ws : List (List UInt8)} (hN : ∀ w, Sat R w → NumW w) (ps : List (Nat × Int)) (j : Nat) (hj : j < m) (hm : ps.length = m) (hm2 : m ≤ 100) (hn : ws.length = n) (hmn : n ≤ 1000000) (hc : n ≤ c) (ha : WordsAt R b off ws) (hp : Sl R A m 1 (ptrV ob ps))
    (hz : ∀ i (h : i < ps.length), i < j → ∃ z, ws[k + i]? = some z ∧ read z = (ps[i].2, 0) ∧ z.length ≤ 1048576) (hbad : BadW ws (k + j)) (hcs : ∀ p ∈ ps, IntAt cs p.1 ∧ I64 p.2) :
    PanR Tryz.prog R 31 [.pointer (some ⟨lb, 0, none⟩), .slice A m ca] [tkH lb b off n c k, blkH ob tb cs] isThrown R := by
  refine PanR.of_sat fun wS hS => ?_
  obtain ⟨_, sa⟩ := hp.spot (by omega) (Sat.rest hS)
  refine pan_of_run0 _ _ false Tryz.func31 rfl hmix rfl fun w0 => ?_
  conv => whnf
  refine ⟨trivial, LoopAt.heap (α := Nat) [0, 6, 7] (fun i => [(8, .v (.int .i64 (i : Int)))]) (fun i => [tkH lb b off n c (k + i), blkH ob tb (putsC cs (ps.take i))]) (fun i => i ≤ j) (fun i => m - i) 0 (Nat.zero_le _) rfl ⟨⟨rfl, rfl⟩, trivial⟩ ⟨⟨rfl, rfl⟩, ⟨rfl, rfl⟩, ⟨rfl, rfl⟩, trivial⟩ trivial (fun h s => sub_same s) ?_⟩
  intro i hi
  conv => whnf
  refine ⟨fun h => ?_, fun h => ?_⟩
  · have hi2 : i < m := by simpa using h
    rcases sa with sa | ⟨ab, aoff, rfl, sa⟩
    · omega
    have hil : i < ps.length := by omega
    have hzi := hz i hil
    obtain ⟨hk1, hk2⟩ := hcs _ (List.getElem_mem hil)
    have f1 : (ptrV ob ps)[i]? = some (.pointer (some ⟨ob, (ps[i]).1, none⟩)) := by simp [hil]
    have f2 : putsC cs (ps.take (i + 1)) = putK' (putsC cs (ps.take i)) ps[i].1 (.int .i64 ps[i].2) := by rw [List.take_succ_eq_append_getElem hil, putsC_snoc]
    obtain ⟨g1, g2⟩ := putsC_int (cs := cs) (ps := ps.take i) fun p hp' => ⟨(hcs p (List.mem_of_mem_take hp')).1.lt, (hcs p (List.mem_of_mem_take hp')).2⟩
    obtain ⟨v, hv, hv2⟩ := g2 _ hk1
    have hlt := hk1.lt
    generalize ps[i] = p at *
    obtain ⟨kk, zz⟩ := p
    simp only at hzi hk1 hk2 f1 f2 hv hlt
    generalize putsC cs (ps.take i) = cc at *
    conv => whnf
    refine ⟨⟨trivial, by omega⟩, LoadAt.cell (.pointer (some ⟨ob, kk, none⟩)) rfl rfl (fun w hw => ?_) ?_⟩
    · simp only [Int.toNat_natCast, Nat.mul_one]
      exact sa w (Sat.rest hw) _ _ f1
    conv => whnf
    refine ⟨trivial, LoadAt.cell (.int .i64 v) rfl rfl (fun w hw => blk_cell (hw.in_ 1 rfl) hv) ?_⟩
    conv => whnf
    refine ⟨trivial, CallAt.pure (fun R' hR' => sPrint (fun w s => hN w (Sat.rest (hR' w s))) v hv2.1 hv2.2) ?_⟩
    conv => whnf
    by_cases hij : i < j
    · obtain ⟨z, hz1, hz2, hz3⟩ := hzi hij
      refine ⟨trivial, CallAt.fn (pre := [tkH lb b off n c (k + i)]) _ (fun h s => s) (fun R' hR' => sWordT (bs (Lib.itoa v)) hz1 hn hmn hc (ha.mono fun w s => Sat.rest (hR' w s))) ?_⟩
      rintro r hs ⟨rfl, rfl⟩
      conv => whnf
      refine ⟨trivial, CallAt.pure (fun R' hR' => sNumberR (fun w s => hN w (Sat.rest (hR' w s))) z hz3 zz hz2) ?_⟩
      conv => whnf
      refine ⟨trivial, OpAt.store (A' := blkH ob tb (putK' cc kk (.int .i64 zz))) ob kk (.int .i64 zz) _ rfl (fun h s => sepL_pull 1 s) rfl rfl rfl rfl rfl (by simp [Value.cells, Value.oneCell']) (fun h r => blk_put (show kk + 1 ≤ _ by omega) r) ?_⟩
      conv => whnf
      refine ⟨(by (repeat' apply And.intro) <;> first | exact True.intro | (unfold rng; omega) | omega), Next.heap (i + 1) (by omega) (by omega) ⟨⟨rfl, rfl⟩, trivial⟩ ⟨⟨rfl, rfl⟩, ⟨rfl, rfl⟩, ⟨rfl, rfl⟩, trivial⟩ trivial rfl rfl fun h s => sub_same ?_⟩
      rw [f2]
      exact sepL_pull 1 s
    · have hij : i = j := by omega
      subst hij
      rcases hbad with hb | ⟨z, hz1, hz3, hz2⟩
      · have hkn : k + i = n := by omega
        rw [hkn]
        exact ⟨trivial, CallAt.panT (pre := [tkH lb b off n c n]) _ (fun h s => s) (fun R' hR' => sWordNo (bs (Lib.itoa v))) (fun ch h => h) (fun w s => s.rest) trivial⟩
      · refine ⟨trivial, CallAt.fn (pre := [tkH lb b off n c (k + i)]) _ (fun h s => s) (fun R' hR' => sWordT (bs (Lib.itoa v)) hz1 hn hmn hc (ha.mono fun w s => Sat.rest (hR' w s))) ?_⟩
        rintro r hs ⟨rfl, rfl⟩
        conv => whnf
        exact ⟨trivial, CallAt.panS (fun R' hR' => sNumberNo (fun w s => hN w (Sat.rest (hR' w s))) z hz3 hz2) (fun ch h => h) (fun w s => s.rest) trivial⟩
  · have hi3 : i = m := by simp at h; omega
    omega
/-- some words are numbers, up to one that is not there or is none's -/
structure NumsNo (ws : List (List UInt8)) (k : Nat) (zs : List Int) (j : Nat) : Prop where
  lt : j < zs.length
  ok : ∀ i (h : i < zs.length), i < j → ∃ z, ws[k + i]? = some z ∧ read z = (zs[i], 0) ∧ z.length ≤ 1048576
  bad : BadW ws (k + j)
theorem NumsNo.ps {ws : List (List UInt8)} {k j : Nat} {zs : List Int} (h : NumsNo ws k zs j) {ps : List (Nat × Int)} (e : ps.map (·.2) = zs) : ∀ i (h : i < ps.length), i < j → ∃ z, ws[k + i]? = some z ∧ read z = (ps[i].2, 0) ∧ z.length ≤ 1048576 := by
  subst e
  intro i hi hj
  obtain ⟨z, h1, h2, h3⟩ := h.ok i (by simpa using hi) hj
  exact ⟨z, h1, by simpa using h2, h3⟩
theorem sCellNo {R : HP} {lb b off n c k ob : Nat} {tb : TypeId} {cs : Array Value} {ws : List (List UInt8)} (hN : ∀ w, Sat R w → NumW w) (j : Nat) (x y : Int) {q : Nat} (hn : ws.length = n) (hmn : n ≤ 1000000) (hc : n ≤ c) (ha : WordsAt R b off ws) (hz : NumsNo ws k [x, y] q) (bx : I64 x) (by' : I64 y) (h0 : IntAt cs j) (h1 : IntAt cs (j + 1)) :
    PanR Tryz.prog R 32 [.pointer (some ⟨lb, 0, none⟩), .pointer (some ⟨ob, j, none⟩)] [tkH lb b off n c k, blkH ob tb cs] isThrown R := by
  refine pan_of_run0 _ _ false Tryz.func32 rfl hmix rfl fun w0 => ?_
  conv => whnf
  refine ⟨trivial, RegAt.groups [([.T 0, .T 1, .T 2, .T 3, .T 4, .T 5, .T 6, .H 7], 8), ([.H 8], 9)] hmix (by kernel_rfl) ?_⟩
  conv => whnf
  refine ⟨trivial, OpAt.lit (ptrV ob [(j, x), (j + 1, y)]) 1 rfl rfl rfl rfl rfl (by decide) rfl rfl rfl (by simp [Value.cells]) rfl (by decide) fun g => ?_⟩
  conv => whnf
  refine ⟨trivial, ⟨⟨rfl, rfl⟩, fun h s => sub_tail s⟩, ?_⟩
  conv => whnf
  refine ⟨trivial, CallAt.panT (pre := [tkH lb b off n c k, blkH ob tb cs]) _ (fun h s => sepL_perm (List.Perm.trans (List.Perm.swap _ _ _) ((List.Perm.swap _ _ _).cons _)) s) (fun R' hR' => sNumbersNo (fun w s => hN w (Sat.rest (hR' w s))) [(j, x), (j + 1, y)] q hz.lt rfl (by decide) hn hmn hc (ha.mono fun w s => Sat.rest (hR' w s)) (Sl.row fun w s => (hR' w s).in_ 0 rfl) (hz.ps rfl) hz.bad (fun p hp => ?_)) (fun ch h => h) (fun w s => s.rest) trivial⟩
  simp only [List.mem_cons, List.not_mem_nil, or_false] at hp
  rcases hp with rfl | rfl
  · exact ⟨h0, bx⟩
  · exact ⟨h1, by'⟩
theorem sRectNo {R : HP} {lb b off n c k ob : Nat} {tb : TypeId} {cs : Array Value} {ws : List (List UInt8)} (hN : ∀ w, Sat R w → NumW w) (j : Nat) (x y z u : Int) {q : Nat} (hn : ws.length = n) (hmn : n ≤ 1000000) (hc : n ≤ c) (ha : WordsAt R b off ws) (hz : NumsNo ws k [x, y, z, u] q) (bx : I64 x) (by' : I64 y) (bz : I64 z) (bu : I64 u) (h0 : IntAt cs j) (h1 : IntAt cs (j + 1)) (h2 : IntAt cs (j + 2)) (h3 : IntAt cs (j + 3)) :
    PanR Tryz.prog R 33 [.pointer (some ⟨lb, 0, none⟩), .pointer (some ⟨ob, j, none⟩)] [tkH lb b off n c k, blkH ob tb cs] isThrown R := by
  refine pan_of_run0 _ _ false Tryz.func33 rfl hmix rfl fun w0 => ?_
  conv => whnf
  refine ⟨trivial, RegAt.groups [([.T 0, .T 1, .T 2, .T 3, .T 4, .T 5, .T 6, .T 7, .T 8, .T 9, .T 10, .T 11, .T 12, .H 13], 14), ([.H 14], 15)] hmix (by kernel_rfl) ?_⟩
  conv => whnf
  refine ⟨trivial, OpAt.lit (ptrV ob [(j, x), (j + 1, y), (j + 2, z), (j + 3, u)]) 1 rfl rfl rfl rfl rfl (by decide) rfl rfl rfl (by simp [Value.cells]) rfl (by decide) fun g => ?_⟩
  conv => whnf
  refine ⟨trivial, ⟨⟨rfl, rfl⟩, fun h s => sub_tail s⟩, ?_⟩
  conv => whnf
  refine ⟨trivial, CallAt.panT (pre := [tkH lb b off n c k, blkH ob tb cs]) _ (fun h s => sepL_perm (List.Perm.trans (List.Perm.swap _ _ _) ((List.Perm.swap _ _ _).cons _)) s) (fun R' hR' => sNumbersNo (fun w s => hN w (Sat.rest (hR' w s))) [(j, x), (j + 1, y), (j + 2, z), (j + 3, u)] q hz.lt rfl (by decide) hn hmn hc (ha.mono fun w s => Sat.rest (hR' w s)) (Sl.row fun w s => (hR' w s).in_ 0 rfl) (hz.ps rfl) hz.bad (fun p hp => ?_)) (fun ch h => h) (fun w s => s.rest) trivial⟩
  simp only [List.mem_cons, List.not_mem_nil, or_false] at hp
  rcases hp with rfl | rfl | rfl | rfl
  · exact ⟨h0, bx⟩
  · exact ⟨h1, by'⟩
  · exact ⟨h2, bz⟩
  · exact ⟨h3, bu⟩
end Go.Proofs.YtihkhomnhggifaaGreatDoor

