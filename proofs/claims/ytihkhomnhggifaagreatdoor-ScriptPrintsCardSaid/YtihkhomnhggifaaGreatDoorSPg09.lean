/-
  Texts of the proofs, one behind the other: ScK, ScKa, ScPa, ScKe.
-/
import Derived.Test.YtihkhomnhggifaaGreatDoorSPg08
import Derived.Test.YtihkhomnhggifaaGreatDoorSPg06
/-
  script: a line that is taken (word, numbers, cell, rect), where the words are there.
-/
namespace Go.Proofs.YtihkhomnhggifaaGreatDoor
open Go.RowKit
open Sy
set_option linter.unusedVariables false
set_option linter.unusedSimpArgs false
set_option maxRecDepth 100000
set_option maxHeartbeats 4000000

abbrev lnT (lb : Nat) (A : Option Addr) (n c : Nat) : HP := blkH lb 51 #[.slice A n c, .bool true]
/-- a line of which k words are taken -/
def tkH (lb b off n c k : Nat) : HP := fun h => ∃ A, (A = some ⟨b, off + k, none⟩ ∨ k = n) ∧ lnT lb A (n - k) (c - k) h
theorem FnR.untk {P : Program} {R : HP} {f : FuncId} {args : List Value} {l : List HP} {post : Value → List HP → Prop} {lb b off n c k : Nat} (h : ∀ A, (A = some ⟨b, off + k, none⟩ ∨ k = n) → FnR P R f args (lnT lb A (n - k) (c - k) :: l) post) : FnR P R f args (tkH lb b off n c k :: l) post := by
  rintro w ⟨g, g1, h1, h2, d, rfl, ⟨A, hA, a⟩, s⟩
  exact h A hA w ⟨_, g1, h1, h2, d, rfl, a, s⟩
theorem tk_shut {lb b off n c k : Nat} {A : Option Addr} {R : HP} {L : List HP} {h : Hl} (hA : A = some ⟨b, off + k, none⟩ ∨ k = n) (s : sepL (lnT lb A (n - k) (c - k) :: L) R h) : sepL (tkH lb b off n c k :: L) R h := by
  obtain ⟨h1, h2, d, rfl, a, s⟩ := s
  exact ⟨h1, h2, d, rfl, ⟨A, hA, a⟩, s⟩
/-- where the words lie -/
def WordsAt (R : HP) (b off : Nat) (ws : List (List UInt8)) : Prop := ∀ w, Sat R w → ∀ (j : Nat) z, ws[j]? = some z → w.cell? ⟨b, off + j, none⟩ = some (.string (bs z))
theorem WordsAt.mono {R R' : HP} {b off : Nat} {ws : List (List UInt8)} (h : WordsAt R b off ws) (hr : ∀ w, Sat R' w → Sat R w) : WordsAt R' b off ws := fun w s => h w (hr w s)
theorem sWordT {R : HP} {lb b off n c k : Nat} {ws : List (List UInt8)} {z : List UInt8} (s : ByteArray) (hz : ws[k]? = some z) (hn : ws.length = n) (hm : n ≤ 1000000) (hc : n ≤ c) (ha : WordsAt R b off ws) :
    FnR Tryz.prog R 45 [.pointer (some ⟨lb, 0, none⟩), .string s] [tkH lb b off n c k] fun r hs => r = .string (bs z) ∧ hs = [tkH lb b off n c (k + 1)] := by
  have hk : k < n := by rw [← hn]; exact (List.getElem?_eq_some_iff.1 hz).1
  refine FnR.untk fun A hA => ?_
  obtain rfl : A = some ⟨b, off + k, none⟩ := by
    rcases hA with hA | hA
    · exact hA
    · omega
  refine fn_of_run0 false Tryz.func45 rfl hmix rfl fun w0 => ?_
  conv => whnf
  refine ⟨trivial, LoadAt.cell (.bool true) rfl rfl (fun w hw => blk_cell (hw.in_ 0 rfl) rfl) ?_⟩
  conv => whnf
  refine iff_f rfl ?_
  conv => whnf
  refine ⟨trivial, LoadAt.cell (.slice (some ⟨b, off + k, none⟩) (n - k) (c - k)) rfl rfl (fun w hw => blk_cell (hw.in_ 0 rfl) rfl) ?_⟩
  conv => whnf
  refine iff_f (decide_eq_false (by omega)) ?_
  conv => whnf
  refine ⟨trivial, LoadAt.cell (.slice (some ⟨b, off + k, none⟩) (n - k) (c - k)) rfl rfl (fun w hw => blk_cell (hw.in_ 0 rfl) rfl) ?_⟩
  conv => whnf
  refine ⟨⟨trivial, by omega⟩, LoadAt.cell (.string (bs z)) rfl rfl (fun w' hw => ?_) ?_⟩
  · exact ha w' (Sat.rest hw) k _ hz
  conv => whnf
  refine ⟨trivial, LoadAt.cell (.slice (some ⟨b, off + k, none⟩) (n - k) (c - k)) rfl rfl (fun w hw => blk_cell (hw.in_ 0 rfl) rfl) ?_⟩
  conv => whnf
  refine ⟨trivial, OpAt.from2 b (off + k) (n - k) (c - k) 1 .i64 rfl rfl rfl rfl rfl rfl (by omega) (by omega) fun A' hA' => ?_⟩
  conv => whnf
  refine ⟨trivial, OpAt.store lb 0 (.slice A' (n - k - 1) (c - k - 1)) _ rfl (fun h s => s) rfl rfl rfl rfl rfl (by simp [Value.cells, Value.oneCell']) (fun h r => blk_put (by show 0 + 1 ≤ 2; omega) r) ?_⟩
  conv => whnf
  refine ⟨trivial, .mk [tkH lb b off n c (k + 1)] (fun w ⟨h, hs, s⟩ => ⟨h, hs, tk_shut (A := A') ?_ ?_⟩) ⟨rfl, rfl⟩⟩
  · rcases hA' with hA' | hA'
    · exact .inl (by rw [hA']; congr 2)
    · exact .inr (by omega)
  · exact s
theorem sNumberR {R : HP} (hN : ∀ w, Sat R w → NumW w) (z : List UInt8) (hl : z.length ≤ 1048576) (n : Int) (h : read z = (n, 0)) : PureR Tryz.prog R 49 [.string (bs z)] (.int .i64 n) := by
  have hr := fun R' (h' : ∀ w, Sat R' w → Sat R w) => sRead (R := R') (fun w s => hN w (h' w s)) z hl
  rw [h] at hr
  refine fn_of_run0 false Tryz.func49 rfl hmix rfl fun w0 => ?_
  conv => whnf
  refine ⟨trivial, CallAt.pure (fun R' hR' => hr R' hR') ?_⟩
  conv => whnf
  refine iff_f rfl ?_
  conv => whnf
  exact ⟨trivial, fin_pure rfl rfl⟩
/-- a cell that is a number -/
def IntAt (cs : Array Value) (k : Nat) : Prop := ∃ v, cs[k]? = some (.int .i64 v) ∧ I64 v
abbrev putK' (cs : Array Value) (k : Nat) (v : Value) : Array Value := (putL cs.toList k [v]).toArray
theorem putK_get {cs : Array Value} {k j : Nat} {v : Value} (hk : k < cs.size) : (putK' cs k v)[j]? = if j = k then some v else cs[j]? := by
  simp only [List.getElem?_toArray]
  rw [putL_get (by simp; omega)]
  by_cases c : j = k
  · subst c
    rw [if_pos (by simp), if_pos rfl]
    simp
  · rw [if_neg (by simp; omega), if_neg c]
    simp
theorem putK_size {cs : Array Value} {k : Nat} {v : Value} (hk : k < cs.size) : (putK' cs k v).size = cs.size := by
  simp only [List.size_toArray]
  rw [putL_len (by simp; omega)]
  simp
theorem IntAt.lt {cs : Array Value} {k : Nat} (h : IntAt cs k) : k < cs.size := by
  obtain ⟨v, h, _⟩ := h
  exact (Array.getElem?_eq_some_iff.1 h).1
theorem IntAt.put {cs : Array Value} {k j : Nat} {z : Int} (h : IntAt cs j) (hk : k < cs.size) (hz : I64 z) : IntAt (putK' cs k (.int .i64 z)) j := by
  unfold IntAt
  rw [putK_get hk]
  split
  · exact ⟨z, rfl, hz⟩
  · exact h
def putsC (cs : Array Value) (ps : List (Nat × Int)) : Array Value := ps.foldl (fun c p => putK' c p.1 (.int .i64 p.2)) cs
theorem putsC_snoc (cs : Array Value) (ps : List (Nat × Int)) (p : Nat × Int) : putsC cs (ps ++ [p]) = putK' (putsC cs ps) p.1 (.int .i64 p.2) := by simp [putsC]
theorem putsC_int : ∀ {ps : List (Nat × Int)} {cs : Array Value}, (∀ p ∈ ps, p.1 < cs.size ∧ I64 p.2) → (putsC cs ps).size = cs.size ∧ ∀ j, IntAt cs j → IntAt (putsC cs ps) j
  | [], cs, _ => ⟨rfl, fun j h => h⟩
  | p :: ps, cs, h => by
    obtain ⟨g1, g2⟩ := h p (by simp)
    have hs := putK_size (cs := cs) (v := .int .i64 p.2) g1
    obtain ⟨h1, h2⟩ := putsC_int (ps := ps) (cs := putK' cs p.1 (.int .i64 p.2)) fun q hq => by
      rw [hs]
      exact h q (List.mem_cons_of_mem _ hq)
    exact ⟨h1.trans hs, fun j hj => h2 j (hj.put g1 g2)⟩
theorem sNumbersT {R : HP} {lb b off n c k ob : Nat} {tb : TypeId} {cs : Array Value} {A : Option Addr} {m ca : Nat} {ws : List (List UInt8)} (hN : ∀ w, Sat R w → NumW w) (ps : List (Nat × Int)) (hm : ps.length = m) (hm2 : m ≤ 100) (hn : ws.length = n) (hmn : n ≤ 1000000) (hc : n ≤ c) (ha : WordsAt R b off ws) (hp : Sl R A m 1 (ptrV ob ps))
    (hz : ∀ i (h : i < ps.length), ∃ z, ws[k + i]? = some z ∧ read z = (ps[i].2, 0) ∧ z.length ≤ 1048576) (hcs : ∀ p ∈ ps, IntAt cs p.1 ∧ I64 p.2) :
    FnR Tryz.prog R 31 [.pointer (some ⟨lb, 0, none⟩), .slice A m ca] [tkH lb b off n c k, blkH ob tb cs] fun r hs => r = .tuple #[] ∧ hs = [tkH lb b off n c (k + ps.length), blkH ob tb (putsC cs ps)] := by
  refine FnR.of_sat fun wS hS => ?_
  obtain ⟨_, sa⟩ := hp.spot (by omega) (Sat.rest hS)
  refine fn_of_run0 false Tryz.func31 rfl hmix rfl fun w0 => ?_
  conv => whnf
  refine ⟨trivial, LoopAt.heap (α := Nat) [0, 6, 7] (fun i => [(8, .v (.int .i64 (i : Int)))]) (fun i => [tkH lb b off n c (k + i), blkH ob tb (putsC cs (ps.take i))]) (fun i => i ≤ m) (fun i => m - i) 0 (Nat.zero_le _) rfl ⟨⟨rfl, rfl⟩, trivial⟩ ⟨⟨rfl, rfl⟩, ⟨rfl, rfl⟩, ⟨rfl, rfl⟩, trivial⟩ trivial (fun h s => sub_same s) ?_⟩
  intro i hi
  conv => whnf
  refine ⟨fun h => ?_, fun h => ?_⟩
  · have hi2 : i < m := by simpa using h
    rcases sa with sa | ⟨ab, aoff, rfl, sa⟩
    · omega
    have hil : i < ps.length := by omega
    obtain ⟨z, hz1, hz2, hz3⟩ := hz i hil
    obtain ⟨hk1, hk2⟩ := hcs _ (List.getElem_mem hil)
    have f1 : (ptrV ob ps)[i]? = some (.pointer (some ⟨ob, (ps[i]).1, none⟩)) := by simp [hil]
    have f2 : putsC cs (ps.take (i + 1)) = putK' (putsC cs (ps.take i)) ps[i].1 (.int .i64 ps[i].2) := by rw [List.take_succ_eq_append_getElem hil, putsC_snoc]
    obtain ⟨g1, g2⟩ := putsC_int (cs := cs) (ps := ps.take i) fun p hp' => ⟨(hcs p (List.mem_of_mem_take hp')).1.lt, (hcs p (List.mem_of_mem_take hp')).2⟩
    obtain ⟨v, hv, hv2⟩ := g2 _ hk1
    have hlt := hk1.lt
    generalize ps[i] = p at *
    obtain ⟨kk, zz⟩ := p
    simp only at hz2 hk1 hk2 f1 f2 hv hlt
    generalize putsC cs (ps.take i) = cc at *
    conv => whnf
    refine ⟨⟨trivial, by omega⟩, LoadAt.cell (.pointer (some ⟨ob, kk, none⟩)) rfl rfl (fun w hw => ?_) ?_⟩
    · simp only [Int.toNat_natCast, Nat.mul_one]
      exact sa w (Sat.rest hw) _ _ f1
    conv => whnf
    refine ⟨trivial, LoadAt.cell (.int .i64 v) rfl rfl (fun w hw => blk_cell (hw.in_ 1 rfl) hv) ?_⟩
    conv => whnf
    refine ⟨trivial, CallAt.pure (fun R' hR' => sPrint (fun w s => hN w (Sat.rest (hR' w s))) v hv2.1 hv2.2) ?_⟩
    conv => whnf
    refine ⟨trivial, CallAt.fn (pre := [tkH lb b off n c (k + i)]) _ (fun h s => s) (fun R' hR' => sWordT (bs (Lib.itoa v)) hz1 hn hmn hc (ha.mono fun w s => Sat.rest (hR' w s))) ?_⟩
    rintro r hs ⟨rfl, rfl⟩
    conv => whnf
    refine ⟨trivial, CallAt.pure (fun R' hR' => sNumberR (fun w s => hN w (Sat.rest (hR' w s))) z hz3 zz hz2) ?_⟩
    conv => whnf
    refine ⟨trivial, OpAt.store (A' := blkH ob tb (putK' cc kk (.int .i64 zz))) ob kk (.int .i64 zz) _ rfl (fun h s => sepL_pull 1 s) rfl rfl rfl rfl rfl (by simp [Value.cells, Value.oneCell']) (fun h r => blk_put (show kk + 1 ≤ _ by omega) r) ?_⟩
    conv => whnf
    refine ⟨(by (repeat' apply And.intro) <;> first | exact True.intro | (unfold rng; omega) | omega), Next.heap (i + 1) (by omega) (by omega) ⟨⟨rfl, rfl⟩, trivial⟩ ⟨⟨rfl, rfl⟩, ⟨rfl, rfl⟩, ⟨rfl, rfl⟩, trivial⟩ trivial rfl rfl fun h s => sub_same ?_⟩
    rw [f2]
    exact sepL_pull 1 s
  · have hi3 : i = m := by simp at h; omega
    subst hi3
    conv => whnf
    refine ⟨trivial, .mk _ (fun w s => s) ⟨rfl, ?_⟩⟩
    rw [List.take_of_length_le (by omega), hm]
end Go.Proofs.YtihkhomnhggifaaGreatDoor

/-
  script: a cell, a rectangle, taken; a list, bytes, a legend taken.
-/
namespace Go.Proofs.YtihkhomnhggifaaGreatDoor
open Go.RowKit
open Sy
set_option linter.unusedVariables false
set_option linter.unusedSimpArgs false
set_option maxRecDepth 100000
set_option maxHeartbeats 4000000

/-- some words are numbers -/
def Nums (ws : List (List UInt8)) (k : Nat) (zs : List Int) : Prop := ∀ i (h : i < zs.length), ∃ z, ws[k + i]? = some z ∧ read z = (zs[i], 0) ∧ z.length ≤ 1048576
theorem Nums.ps {ws : List (List UInt8)} {k : Nat} {zs : List Int} (h : Nums ws k zs) {ps : List (Nat × Int)} (e : ps.map (·.2) = zs) : ∀ i (h : i < ps.length), ∃ z, ws[k + i]? = some z ∧ read z = (ps[i].2, 0) ∧ z.length ≤ 1048576 := by
  subst e
  intro i hi
  obtain ⟨z, h1, h2, h3⟩ := h i (by simpa using hi)
  exact ⟨z, h1, by simpa using h2, h3⟩
theorem sCellT {R : HP} {lb b off n c k ob : Nat} {tb : TypeId} {cs : Array Value} {ws : List (List UInt8)} (hN : ∀ w, Sat R w → NumW w) (j : Nat) (x y : Int) (hn : ws.length = n) (hmn : n ≤ 1000000) (hc : n ≤ c) (ha : WordsAt R b off ws) (hz : Nums ws k [x, y]) (bx : I64 x) (by' : I64 y) (h0 : IntAt cs j) (h1 : IntAt cs (j + 1)) :
    FnR Tryz.prog R 32 [.pointer (some ⟨lb, 0, none⟩), .pointer (some ⟨ob, j, none⟩)] [tkH lb b off n c k, blkH ob tb cs] fun r hs => r = .tuple #[] ∧ hs = [tkH lb b off n c (k + 2), blkH ob tb (putsC cs [(j, x), (j + 1, y)])] := by
  refine fn_of_run0 false Tryz.func32 rfl hmix rfl fun w0 => ?_
  conv => whnf
  refine ⟨trivial, RegAt.groups [([.T 0, .T 1, .T 2, .T 3, .T 4, .T 5, .T 6, .H 7], 8), ([.H 8], 9)] hmix (by kernel_rfl) ?_⟩
  conv => whnf
  refine ⟨trivial, OpAt.lit (ptrV ob [(j, x), (j + 1, y)]) 1 rfl rfl rfl rfl rfl (by decide) rfl rfl rfl (by simp [Value.cells]) rfl (by decide) fun g => ?_⟩
  conv => whnf
  refine ⟨trivial, ⟨⟨rfl, rfl⟩, fun h s => sub_tail s⟩, ?_⟩
  conv => whnf
  refine ⟨trivial, CallAt.fn (pre := [tkH lb b off n c k, blkH ob tb cs]) _ (fun h s => sepL_perm (List.Perm.trans (List.Perm.swap _ _ _) ((List.Perm.swap _ _ _).cons _)) s) (fun R' hR' => sNumbersT (fun w s => hN w (Sat.rest (hR' w s))) [(j, x), (j + 1, y)] rfl (by decide) hn hmn hc (ha.mono fun w s => Sat.rest (hR' w s)) (Sl.row fun w s => (hR' w s).in_ 0 rfl) (hz.ps rfl) (fun p hp => ?_)) ?_⟩
  · simp only [List.mem_cons, List.not_mem_nil, or_false] at hp
    rcases hp with rfl | rfl
    · exact ⟨h0, bx⟩
    · exact ⟨h1, by'⟩
  rintro r hs ⟨rfl, rfl⟩
  conv => whnf
  refine ⟨trivial, ?_⟩
  conv => whnf
  exact ⟨trivial, .mk [tkH lb b off n c (k + 2), blkH ob tb (putsC cs [(j, x), (j + 1, y)])] (fun w ⟨h, hs, s⟩ => by obtain ⟨h', e, s2⟩ := sub_front (m := [tkH lb b off n c (k + 2), blkH ob tb (putsC cs [(j, x), (j + 1, y)])]) s; exact ⟨h', hs.mono e, s2⟩) ⟨rfl, rfl⟩⟩
theorem sRectT {R : HP} {lb b off n c k ob : Nat} {tb : TypeId} {cs : Array Value} {ws : List (List UInt8)} (hN : ∀ w, Sat R w → NumW w) (j : Nat) (x y z u : Int) (hn : ws.length = n) (hmn : n ≤ 1000000) (hc : n ≤ c) (ha : WordsAt R b off ws) (hz : Nums ws k [x, y, z, u]) (bx : I64 x) (by' : I64 y) (bz : I64 z) (bu : I64 u) (h0 : IntAt cs j) (h1 : IntAt cs (j + 1)) (h2 : IntAt cs (j + 2)) (h3 : IntAt cs (j + 3)) :
    FnR Tryz.prog R 33 [.pointer (some ⟨lb, 0, none⟩), .pointer (some ⟨ob, j, none⟩)] [tkH lb b off n c k, blkH ob tb cs] fun r hs => r = .tuple #[] ∧ hs = [tkH lb b off n c (k + 4), blkH ob tb (putsC cs [(j, x), (j + 1, y), (j + 2, z), (j + 3, u)])] := by
  refine fn_of_run0 false Tryz.func33 rfl hmix rfl fun w0 => ?_
  conv => whnf
  refine ⟨trivial, RegAt.groups [([.T 0, .T 1, .T 2, .T 3, .T 4, .T 5, .T 6, .T 7, .T 8, .T 9, .T 10, .T 11, .T 12, .H 13], 14), ([.H 14], 15)] hmix (by kernel_rfl) ?_⟩
  conv => whnf
  refine ⟨trivial, OpAt.lit (ptrV ob [(j, x), (j + 1, y), (j + 2, z), (j + 3, u)]) 1 rfl rfl rfl rfl rfl (by decide) rfl rfl rfl (by simp [Value.cells]) rfl (by decide) fun g => ?_⟩
  conv => whnf
  refine ⟨trivial, ⟨⟨rfl, rfl⟩, fun h s => sub_tail s⟩, ?_⟩
  conv => whnf
  refine ⟨trivial, CallAt.fn (pre := [tkH lb b off n c k, blkH ob tb cs]) _ (fun h s => sepL_perm (List.Perm.trans (List.Perm.swap _ _ _) ((List.Perm.swap _ _ _).cons _)) s) (fun R' hR' => sNumbersT (fun w s => hN w (Sat.rest (hR' w s))) [(j, x), (j + 1, y), (j + 2, z), (j + 3, u)] rfl (by decide) hn hmn hc (ha.mono fun w s => Sat.rest (hR' w s)) (Sl.row fun w s => (hR' w s).in_ 0 rfl) (hz.ps rfl) (fun p hp => ?_)) ?_⟩
  · simp only [List.mem_cons, List.not_mem_nil, or_false] at hp
    rcases hp with rfl | rfl | rfl | rfl
    · exact ⟨h0, bx⟩
    · exact ⟨h1, by'⟩
    · exact ⟨h2, bz⟩
    · exact ⟨h3, bu⟩
  rintro r hs ⟨rfl, rfl⟩
  conv => whnf
  refine ⟨trivial, ?_⟩
  conv => whnf
  exact ⟨trivial, .mk [tkH lb b off n c (k + 4), blkH ob tb (putsC cs [(j, x), (j + 1, y), (j + 2, z), (j + 3, u)])] (fun w ⟨h, hs, s⟩ => by obtain ⟨h', e, s2⟩ := sub_front (m := [tkH lb b off n c (k + 4), blkH ob tb (putsC cs [(j, x), (j + 1, y), (j + 2, z), (j + 3, u)])]) s; exact ⟨h', hs.mono e, s2⟩) ⟨rfl, rfl⟩⟩
end Go.Proofs.YtihkhomnhggifaaGreatDoor

/-
  script: the parts of an op, told, where they are numbers.
-/
namespace Go.Proofs.YtihkhomnhggifaaGreatDoor
open Go.RowKit
open Sy
set_option linter.unusedVariables false
set_option linter.unusedSimpArgs false
set_option maxRecDepth 100000
set_option maxHeartbeats 4000000

/-- what an op says, its rows apart -/
structure OpN where
  kind : Int
  x0 : Int
  y0 : Int
  x1 : Int
  y1 : Int
  ax : Int
  ay : Int
  bx : Int
  b_y : Int
  n : Int
  m : Int
structure OpN.ok (o : OpN) : Prop where
  x0 : I64 o.x0
  y0 : I64 o.y0
  x1 : I64 o.x1
  y1 : I64 o.y1
  ax : I64 o.ax
  ay : I64 o.ay
  bx : I64 o.bx
  b_y : I64 o.b_y
  n : I64 o.n
  m : I64 o.m
def opC (o : OpN) (v1 v2 v3 : Value) : Array Value := #[.int .i64 o.kind, .int .i64 o.x0, .int .i64 o.y0, .int .i64 o.x1, .int .i64 o.y1, .int .i64 o.ax, .int .i64 o.ay, .int .i64 o.bx, .int .i64 o.b_y, .int .i64 o.n, .int .i64 o.m, v1, v2, v3]
theorem sPartsN {R : HP} {lb ob : Nat} {o : OpN} {v1 v2 v3 : Value} (hN : ∀ w, Sat R w → NumW w) (ws : List (List UInt8)) (hw : ws.length ≤ 1000) (ok : o.ok) (hk : o.kind = 14 ∨ o.kind = 23) :
    FnR Tryz.prog R 15 [.pointer (some ⟨lb, 0, none⟩), .pointer (some ⟨ob, 0, none⟩)] [lnH lb ws, blkH ob 30 (opC o v1 v2 v3)] fun r hs => r = .tuple #[] ∧ hs = [lnH lb (ws ++ [Lib.itoa o.n]), blkH ob 30 (opC o v1 v2 v3)] := by
  unfold opC
  rcases hk with hk | hk
  all_goals
    rw [hk]
    refine fn_of_run0 false Tryz.func15 rfl hmix rfl fun w0 => ?_
    conv => whnf
    refine ⟨trivial, LoadAt.cell _ rfl rfl (fun w hw => blk_cell (hw.in_ 1 rfl) rfl) ?_⟩
    conv => whnf
    repeat (first | (refine ⟨fun _ => ?_, fun h => absurd h (by decide)⟩; conv => whnf) | (refine ⟨fun h => absurd h (by decide), fun _ => ?_⟩; conv => whnf))
    refine ⟨trivial, OpAt.lit (ptrV ob [(9, o.n)]) 1 rfl rfl rfl rfl rfl (by decide) rfl rfl rfl (by simp [Value.cells]) rfl (by decide) fun g => ?_⟩
    conv => whnf
    refine ⟨trivial, CallAt.fn (pre := [lnH lb (ws), blkH ob 30 _]) _ (fun h s => sepL_perm (List.Perm.trans (List.Perm.swap _ _ _) ((List.Perm.swap _ _ _).cons _)) s) (fun R' hR' => sNumbers (fun w s => hN w (Sat.rest (hR' w s))) (ws) [(9, o.n)] rfl (by decide) (by first | omega | (simp; omega)) (Sl.row fun w s => (hR' w s).in_ 0 rfl) (fun p hp => by simp at hp; subst hp; exact ⟨rfl, ok.n⟩)) ?_⟩
    rintro r hs ⟨rfl, rfl⟩
    conv => whnf
    refine ⟨trivial, .mk [lnH lb (ws ++ [Lib.itoa o.n]), blkH ob 30 _] (fun w ⟨h, hs, s⟩ => by obtain ⟨h', e, s2⟩ := sub_front (m := [lnH lb (ws ++ [Lib.itoa o.n]), blkH ob 30 _]) s; exact ⟨h', hs.mono e, s2⟩) ⟨rfl, ?_⟩⟩
    simp
theorem sPartsA {R : HP} {lb ob : Nat} {o : OpN} {v1 v2 v3 : Value} (hN : ∀ w, Sat R w → NumW w) (ws : List (List UInt8)) (hw : ws.length ≤ 1000) (ok : o.ok) (hk : o.kind = 6 ∨ o.kind = 15) :
    FnR Tryz.prog R 15 [.pointer (some ⟨lb, 0, none⟩), .pointer (some ⟨ob, 0, none⟩)] [lnH lb ws, blkH ob 30 (opC o v1 v2 v3)] fun r hs => r = .tuple #[] ∧ hs = [lnH lb (ws ++ [Lib.itoa o.ax, Lib.itoa o.ay]), blkH ob 30 (opC o v1 v2 v3)] := by
  unfold opC
  rcases hk with hk | hk
  all_goals
    rw [hk]
    refine fn_of_run0 false Tryz.func15 rfl hmix rfl fun w0 => ?_
    conv => whnf
    refine ⟨trivial, LoadAt.cell _ rfl rfl (fun w hw => blk_cell (hw.in_ 1 rfl) rfl) ?_⟩
    conv => whnf
    repeat (first | (refine ⟨fun _ => ?_, fun h => absurd h (by decide)⟩; conv => whnf) | (refine ⟨fun h => absurd h (by decide), fun _ => ?_⟩; conv => whnf))
    refine ⟨trivial, CallAt.fn (pre := [lnH lb ws, blkH ob 30 _]) _ (fun h s => s) (fun R' hR' => sCell (fun w s => hN w (Sat.rest (hR' w s))) ws 5 o.ax o.ay (by first | omega | (simp; omega)) rfl rfl ok.ax ok.ay) ?_⟩
    rintro r hs ⟨rfl, rfl⟩
    conv => whnf
    refine ⟨trivial, .mk [lnH lb (ws ++ [Lib.itoa o.ax, Lib.itoa o.ay]), blkH ob 30 _] (fun w ⟨h, hs, s⟩ => by obtain ⟨h', e, s2⟩ := sub_front (m := [lnH lb (ws ++ [Lib.itoa o.ax, Lib.itoa o.ay]), blkH ob 30 _]) s; exact ⟨h', hs.mono e, s2⟩) ⟨rfl, ?_⟩⟩
    simp
theorem sPartsR {R : HP} {lb ob : Nat} {o : OpN} {v1 v2 v3 : Value} (hN : ∀ w, Sat R w → NumW w) (ws : List (List UInt8)) (hw : ws.length ≤ 1000) (ok : o.ok) (hk : o.kind = 7 ∨ o.kind = 8 ∨ o.kind = 9 ∨ o.kind = 20 ∨ o.kind = 21 ∨ o.kind = 22) :
    FnR Tryz.prog R 15 [.pointer (some ⟨lb, 0, none⟩), .pointer (some ⟨ob, 0, none⟩)] [lnH lb ws, blkH ob 30 (opC o v1 v2 v3)] fun r hs => r = .tuple #[] ∧ hs = [lnH lb (ws ++ [Lib.itoa o.x0, Lib.itoa o.y0, Lib.itoa o.x1, Lib.itoa o.y1]), blkH ob 30 (opC o v1 v2 v3)] := by
  unfold opC
  rcases hk with hk | hk | hk | hk | hk | hk
  all_goals
    rw [hk]
    refine fn_of_run0 false Tryz.func15 rfl hmix rfl fun w0 => ?_
    conv => whnf
    refine ⟨trivial, LoadAt.cell _ rfl rfl (fun w hw => blk_cell (hw.in_ 1 rfl) rfl) ?_⟩
    conv => whnf
    repeat (first | (refine ⟨fun _ => ?_, fun h => absurd h (by decide)⟩; conv => whnf) | (refine ⟨fun h => absurd h (by decide), fun _ => ?_⟩; conv => whnf))
    refine ⟨trivial, CallAt.fn (pre := [lnH lb ws, blkH ob 30 _]) _ (fun h s => s) (fun R' hR' => sRect (fun w s => hN w (Sat.rest (hR' w s))) ws 1 o.x0 o.y0 o.x1 o.y1 (by first | omega | (simp; omega)) rfl rfl rfl rfl ok.x0 ok.y0 ok.x1 ok.y1) ?_⟩
    rintro r hs ⟨rfl, rfl⟩
    conv => whnf
    refine ⟨trivial, .mk [lnH lb (ws ++ [Lib.itoa o.x0, Lib.itoa o.y0, Lib.itoa o.x1, Lib.itoa o.y1]), blkH ob 30 _] (fun w ⟨h, hs, s⟩ => by obtain ⟨h', e, s2⟩ := sub_front (m := [lnH lb (ws ++ [Lib.itoa o.x0, Lib.itoa o.y0, Lib.itoa o.x1, Lib.itoa o.y1]), blkH ob 30 _]) s; exact ⟨h', hs.mono e, s2⟩) ⟨rfl, ?_⟩⟩
    simp
theorem sPartsAN {R : HP} {lb ob : Nat} {o : OpN} {v1 v2 v3 : Value} (hN : ∀ w, Sat R w → NumW w) (ws : List (List UInt8)) (hw : ws.length ≤ 1000) (ok : o.ok) (hk : o.kind = 2) :
    FnR Tryz.prog R 15 [.pointer (some ⟨lb, 0, none⟩), .pointer (some ⟨ob, 0, none⟩)] [lnH lb ws, blkH ob 30 (opC o v1 v2 v3)] fun r hs => r = .tuple #[] ∧ hs = [lnH lb (ws ++ ([Lib.itoa o.ax, Lib.itoa o.ay] ++ [Lib.itoa o.n])), blkH ob 30 (opC o v1 v2 v3)] := by
  unfold opC
  rcases hk with hk
  all_goals
    rw [hk]
    refine fn_of_run0 false Tryz.func15 rfl hmix rfl fun w0 => ?_
    conv => whnf
    refine ⟨trivial, LoadAt.cell _ rfl rfl (fun w hw => blk_cell (hw.in_ 1 rfl) rfl) ?_⟩
    conv => whnf
    repeat (first | (refine ⟨fun _ => ?_, fun h => absurd h (by decide)⟩; conv => whnf) | (refine ⟨fun h => absurd h (by decide), fun _ => ?_⟩; conv => whnf))
    refine ⟨trivial, CallAt.fn (pre := [lnH lb ws, blkH ob 30 _]) _ (fun h s => s) (fun R' hR' => sCell (fun w s => hN w (Sat.rest (hR' w s))) ws 5 o.ax o.ay (by first | omega | (simp; omega)) rfl rfl ok.ax ok.ay) ?_⟩
    rintro r hs ⟨rfl, rfl⟩
    conv => whnf
    refine ⟨trivial, OpAt.lit (ptrV ob [(9, o.n)]) 1 rfl rfl rfl rfl rfl (by decide) rfl rfl rfl (by simp [Value.cells]) rfl (by decide) fun g => ?_⟩
    conv => whnf
    refine ⟨trivial, CallAt.fn (pre := [lnH lb (ws ++ [Lib.itoa o.ax, Lib.itoa o.ay]), blkH ob 30 _]) _ (fun h s => sepL_perm (List.Perm.trans (List.Perm.swap _ _ _) ((List.Perm.swap _ _ _).cons _)) s) (fun R' hR' => sNumbers (fun w s => hN w (Sat.rest (hR' w s))) (ws ++ [Lib.itoa o.ax, Lib.itoa o.ay]) [(9, o.n)] rfl (by decide) (by first | omega | (simp; omega)) (Sl.row fun w s => (hR' w s).in_ 0 rfl) (fun p hp => by simp at hp; subst hp; exact ⟨rfl, ok.n⟩)) ?_⟩
    rintro r hs ⟨rfl, rfl⟩
    conv => whnf
    refine ⟨trivial, .mk [lnH lb (ws ++ [Lib.itoa o.ax, Lib.itoa o.ay] ++ [Lib.itoa o.n]), blkH ob 30 _] (fun w ⟨h, hs, s⟩ => by obtain ⟨h', e, s2⟩ := sub_front (m := [lnH lb (ws ++ [Lib.itoa o.ax, Lib.itoa o.ay] ++ [Lib.itoa o.n]), blkH ob 30 _]) s; exact ⟨h', hs.mono e, s2⟩) ⟨rfl, ?_⟩⟩
    simp
theorem sPartsRN {R : HP} {lb ob : Nat} {o : OpN} {v1 v2 v3 : Value} (hN : ∀ w, Sat R w → NumW w) (ws : List (List UInt8)) (hw : ws.length ≤ 1000) (ok : o.ok) (hk : o.kind = 3 ∨ o.kind = 5 ∨ o.kind = 10 ∨ o.kind = 11) :
    FnR Tryz.prog R 15 [.pointer (some ⟨lb, 0, none⟩), .pointer (some ⟨ob, 0, none⟩)] [lnH lb ws, blkH ob 30 (opC o v1 v2 v3)] fun r hs => r = .tuple #[] ∧ hs = [lnH lb (ws ++ ([Lib.itoa o.x0, Lib.itoa o.y0, Lib.itoa o.x1, Lib.itoa o.y1] ++ [Lib.itoa o.n])), blkH ob 30 (opC o v1 v2 v3)] := by
  unfold opC
  rcases hk with hk | hk | hk | hk
  all_goals
    rw [hk]
    refine fn_of_run0 false Tryz.func15 rfl hmix rfl fun w0 => ?_
    conv => whnf
    refine ⟨trivial, LoadAt.cell _ rfl rfl (fun w hw => blk_cell (hw.in_ 1 rfl) rfl) ?_⟩
    conv => whnf
    repeat (first | (refine ⟨fun _ => ?_, fun h => absurd h (by decide)⟩; conv => whnf) | (refine ⟨fun h => absurd h (by decide), fun _ => ?_⟩; conv => whnf))
    refine ⟨trivial, CallAt.fn (pre := [lnH lb ws, blkH ob 30 _]) _ (fun h s => s) (fun R' hR' => sRect (fun w s => hN w (Sat.rest (hR' w s))) ws 1 o.x0 o.y0 o.x1 o.y1 (by first | omega | (simp; omega)) rfl rfl rfl rfl ok.x0 ok.y0 ok.x1 ok.y1) ?_⟩
    rintro r hs ⟨rfl, rfl⟩
    conv => whnf
    refine ⟨trivial, OpAt.lit (ptrV ob [(9, o.n)]) 1 rfl rfl rfl rfl rfl (by decide) rfl rfl rfl (by simp [Value.cells]) rfl (by decide) fun g => ?_⟩
    conv => whnf
    refine ⟨trivial, CallAt.fn (pre := [lnH lb (ws ++ [Lib.itoa o.x0, Lib.itoa o.y0, Lib.itoa o.x1, Lib.itoa o.y1]), blkH ob 30 _]) _ (fun h s => sepL_perm (List.Perm.trans (List.Perm.swap _ _ _) ((List.Perm.swap _ _ _).cons _)) s) (fun R' hR' => sNumbers (fun w s => hN w (Sat.rest (hR' w s))) (ws ++ [Lib.itoa o.x0, Lib.itoa o.y0, Lib.itoa o.x1, Lib.itoa o.y1]) [(9, o.n)] rfl (by decide) (by first | omega | (simp; omega)) (Sl.row fun w s => (hR' w s).in_ 0 rfl) (fun p hp => by simp at hp; subst hp; exact ⟨rfl, ok.n⟩)) ?_⟩
    rintro r hs ⟨rfl, rfl⟩
    conv => whnf
    refine ⟨trivial, .mk [lnH lb (ws ++ [Lib.itoa o.x0, Lib.itoa o.y0, Lib.itoa o.x1, Lib.itoa o.y1] ++ [Lib.itoa o.n]), blkH ob 30 _] (fun w ⟨h, hs, s⟩ => by obtain ⟨h', e, s2⟩ := sub_front (m := [lnH lb (ws ++ [Lib.itoa o.x0, Lib.itoa o.y0, Lib.itoa o.x1, Lib.itoa o.y1] ++ [Lib.itoa o.n]), blkH ob 30 _]) s; exact ⟨h', hs.mono e, s2⟩) ⟨rfl, ?_⟩⟩
    simp
theorem sPartsAB {R : HP} {lb ob : Nat} {o : OpN} {v1 v2 v3 : Value} (hN : ∀ w, Sat R w → NumW w) (ws : List (List UInt8)) (hw : ws.length ≤ 1000) (ok : o.ok) (hk : o.kind = 16) :
    FnR Tryz.prog R 15 [.pointer (some ⟨lb, 0, none⟩), .pointer (some ⟨ob, 0, none⟩)] [lnH lb ws, blkH ob 30 (opC o v1 v2 v3)] fun r hs => r = .tuple #[] ∧ hs = [lnH lb (ws ++ ([Lib.itoa o.ax, Lib.itoa o.ay] ++ [Lib.itoa o.bx, Lib.itoa o.b_y])), blkH ob 30 (opC o v1 v2 v3)] := by
  unfold opC
  rcases hk with hk
  all_goals
    rw [hk]
    refine fn_of_run0 false Tryz.func15 rfl hmix rfl fun w0 => ?_
    conv => whnf
    refine ⟨trivial, LoadAt.cell _ rfl rfl (fun w hw => blk_cell (hw.in_ 1 rfl) rfl) ?_⟩
    conv => whnf
    repeat (first | (refine ⟨fun _ => ?_, fun h => absurd h (by decide)⟩; conv => whnf) | (refine ⟨fun h => absurd h (by decide), fun _ => ?_⟩; conv => whnf))
    refine ⟨trivial, CallAt.fn (pre := [lnH lb ws, blkH ob 30 _]) _ (fun h s => s) (fun R' hR' => sCell (fun w s => hN w (Sat.rest (hR' w s))) ws 5 o.ax o.ay (by first | omega | (simp; omega)) rfl rfl ok.ax ok.ay) ?_⟩
    rintro r hs ⟨rfl, rfl⟩
    conv => whnf
    refine ⟨trivial, CallAt.fn (pre := [lnH lb (ws ++ [Lib.itoa o.ax, Lib.itoa o.ay]), blkH ob 30 _]) _ (fun h s => s) (fun R' hR' => sCell (fun w s => hN w (Sat.rest (hR' w s))) (ws ++ [Lib.itoa o.ax, Lib.itoa o.ay]) 7 o.bx o.b_y (by first | omega | (simp; omega)) rfl rfl ok.bx ok.b_y) ?_⟩
    rintro r hs ⟨rfl, rfl⟩
    conv => whnf
    refine ⟨trivial, .mk [lnH lb (ws ++ [Lib.itoa o.ax, Lib.itoa o.ay] ++ [Lib.itoa o.bx, Lib.itoa o.b_y]), blkH ob 30 _] (fun w ⟨h, hs, s⟩ => by obtain ⟨h', e, s2⟩ := sub_front (m := [lnH lb (ws ++ [Lib.itoa o.ax, Lib.itoa o.ay] ++ [Lib.itoa o.bx, Lib.itoa o.b_y]), blkH ob 30 _]) s; exact ⟨h', hs.mono e, s2⟩) ⟨rfl, ?_⟩⟩
    simp
end Go.Proofs.YtihkhomnhggifaaGreatDoor

/-
  script: the parts of an op, taken, where they are numbers.
-/
namespace Go.Proofs.YtihkhomnhggifaaGreatDoor
open Go.RowKit
open Sy
set_option linter.unusedVariables false
set_option linter.unusedSimpArgs false
set_option maxRecDepth 100000
set_option maxHeartbeats 4000000

abbrev nilV : Value := .slice none 0 0
/-- an op of which only the kind is known -/
def opZ (kind : Int) : Array Value := opC ⟨kind, 0, 0, 0, 0, 0, 0, 0, 0, 0, 0⟩ nilV nilV nilV
theorem i0 : I64 0 := by unfold I64; omega
theorem Nums.sub {ws : List (List UInt8)} {k : Nat} {zs : List Int} (h : Nums ws k zs) (j : Nat) (ys : List Int) (e : (zs.drop j).take ys.length = ys) : Nums ws (k + j) ys := by
  intro i hi
  have hj : i + j < zs.length := by
    have h1 := congrArg List.length e
    rw [List.length_take, List.length_drop] at h1
    omega
  obtain ⟨z, h1, h2, h3⟩ := h (j + i) (by omega)
  refine ⟨z, by rw [Nat.add_assoc]; exact h1, ?_, h3⟩
  rw [h2]
  have : ys[i] = zs[j + i]'(by omega) := by
    have h4 : ((zs.drop j).take ys.length)[i]? = ys[i]? := by rw [e]
    rw [List.getElem?_take_of_lt hi, List.getElem?_drop, List.getElem?_eq_getElem (by omega), List.getElem?_eq_getElem hi] at h4
    exact (Option.some.inj h4).symm
  rw [this]
theorem sTakeN {R : HP} {lb b0 off m0 c0 k0 ob : Nat} {ws : List (List UInt8)} {o : OpN} (hN : ∀ w, Sat R w → NumW w) (ok : o.ok) (hz : Nums ws k0 [o.n]) (hn0 : ws.length = m0) (hm0 : m0 ≤ 1000000) (hc0 : m0 ≤ c0) (ha0 : WordsAt R b0 off ws) (hk : o.kind = 14 ∨ o.kind = 23) :
    FnR Tryz.prog R 15 [.pointer (some ⟨lb, 0, none⟩), .pointer (some ⟨ob, 0, none⟩)] [tkH lb b0 off m0 c0 k0, blkH ob 30 (opZ o.kind)] fun r hs => r = .tuple #[] ∧ hs = [tkH lb b0 off m0 c0 (k0 + 1), blkH ob 30 (opC ⟨o.kind, 0, 0, 0, 0, 0, 0, 0, 0, o.n, 0⟩ nilV nilV nilV)] := by
  unfold opZ opC
  rcases hk with hk | hk
  all_goals
    rw [hk]
    refine fn_of_run0 false Tryz.func15 rfl hmix rfl fun w0 => ?_
    conv => whnf
    refine ⟨trivial, LoadAt.cell _ rfl rfl (fun w hw => blk_cell (hw.in_ 1 rfl) rfl) ?_⟩
    conv => whnf
    repeat (first | (refine ⟨fun _ => ?_, fun h => absurd h (by decide)⟩; conv => whnf) | (refine ⟨fun h => absurd h (by decide), fun _ => ?_⟩; conv => whnf))
    refine ⟨trivial, OpAt.lit (ptrV ob [(9, o.n)]) 1 rfl rfl rfl rfl rfl (by decide) rfl rfl rfl (by simp [Value.cells]) rfl (by decide) fun g => ?_⟩
    conv => whnf
    refine ⟨trivial, CallAt.fn (pre := [tkH lb b0 off m0 c0 (k0), blkH ob 30 _]) _ (fun h s => sepL_perm (List.Perm.trans (List.Perm.swap _ _ _) ((List.Perm.swap _ _ _).cons _)) s) (fun R' hR' => sNumbersT (fun w s => hN w (Sat.rest (hR' w s))) [(9, o.n)] rfl (by decide) hn0 hm0 hc0 (ha0.mono fun w s => Sat.rest (hR' w s)) (Sl.row fun w s => (hR' w s).in_ 0 rfl) ((hz.sub 0 [o.n] rfl).ps rfl) (fun p hp => by simp only [List.mem_cons, List.not_mem_nil, or_false] at hp; subst hp; exact ⟨⟨0, rfl, i0⟩, ok.n⟩)) ?_⟩
    rintro r hs ⟨rfl, rfl⟩
    conv => whnf
    exact ⟨trivial, .mk [tkH lb b0 off m0 c0 (k0 + 1), blkH ob 30 _] (fun w ⟨h, hs, s⟩ => by obtain ⟨h', e, s2⟩ := sub_front (m := [tkH lb b0 off m0 c0 (k0 + 1), blkH ob 30 _]) s; exact ⟨h', hs.mono e, s2⟩) ⟨rfl, rfl⟩⟩
theorem sTakeA {R : HP} {lb b0 off m0 c0 k0 ob : Nat} {ws : List (List UInt8)} {o : OpN} (hN : ∀ w, Sat R w → NumW w) (ok : o.ok) (hz : Nums ws k0 [o.ax, o.ay]) (hn0 : ws.length = m0) (hm0 : m0 ≤ 1000000) (hc0 : m0 ≤ c0) (ha0 : WordsAt R b0 off ws) (hk : o.kind = 6 ∨ o.kind = 15) :
    FnR Tryz.prog R 15 [.pointer (some ⟨lb, 0, none⟩), .pointer (some ⟨ob, 0, none⟩)] [tkH lb b0 off m0 c0 k0, blkH ob 30 (opZ o.kind)] fun r hs => r = .tuple #[] ∧ hs = [tkH lb b0 off m0 c0 (k0 + 2), blkH ob 30 (opC ⟨o.kind, 0, 0, 0, 0, o.ax, o.ay, 0, 0, 0, 0⟩ nilV nilV nilV)] := by
  unfold opZ opC
  rcases hk with hk | hk
  all_goals
    rw [hk]
    refine fn_of_run0 false Tryz.func15 rfl hmix rfl fun w0 => ?_
    conv => whnf
    refine ⟨trivial, LoadAt.cell _ rfl rfl (fun w hw => blk_cell (hw.in_ 1 rfl) rfl) ?_⟩
    conv => whnf
    repeat (first | (refine ⟨fun _ => ?_, fun h => absurd h (by decide)⟩; conv => whnf) | (refine ⟨fun h => absurd h (by decide), fun _ => ?_⟩; conv => whnf))
    refine ⟨trivial, CallAt.fn (pre := [tkH lb b0 off m0 c0 (k0), blkH ob 30 _]) _ (fun h s => s) (fun R' hR' => sCellT (fun w s => hN w (Sat.rest (hR' w s))) 5 o.ax o.ay hn0 hm0 hc0 (ha0.mono fun w s => Sat.rest (hR' w s)) (hz.sub 0 [o.ax, o.ay] rfl) ok.ax ok.ay ⟨0, rfl, i0⟩ ⟨0, rfl, i0⟩) ?_⟩
    rintro r hs ⟨rfl, rfl⟩
    conv => whnf
    exact ⟨trivial, .mk [tkH lb b0 off m0 c0 (k0 + 2), blkH ob 30 _] (fun w ⟨h, hs, s⟩ => by obtain ⟨h', e, s2⟩ := sub_front (m := [tkH lb b0 off m0 c0 (k0 + 2), blkH ob 30 _]) s; exact ⟨h', hs.mono e, s2⟩) ⟨rfl, rfl⟩⟩
theorem sTakeR {R : HP} {lb b0 off m0 c0 k0 ob : Nat} {ws : List (List UInt8)} {o : OpN} (hN : ∀ w, Sat R w → NumW w) (ok : o.ok) (hz : Nums ws k0 [o.x0, o.y0, o.x1, o.y1]) (hn0 : ws.length = m0) (hm0 : m0 ≤ 1000000) (hc0 : m0 ≤ c0) (ha0 : WordsAt R b0 off ws) (hk : o.kind = 7 ∨ o.kind = 8 ∨ o.kind = 9 ∨ o.kind = 20 ∨ o.kind = 21 ∨ o.kind = 22) :
    FnR Tryz.prog R 15 [.pointer (some ⟨lb, 0, none⟩), .pointer (some ⟨ob, 0, none⟩)] [tkH lb b0 off m0 c0 k0, blkH ob 30 (opZ o.kind)] fun r hs => r = .tuple #[] ∧ hs = [tkH lb b0 off m0 c0 (k0 + 4), blkH ob 30 (opC ⟨o.kind, o.x0, o.y0, o.x1, o.y1, 0, 0, 0, 0, 0, 0⟩ nilV nilV nilV)] := by
  unfold opZ opC
  rcases hk with hk | hk | hk | hk | hk | hk
  all_goals
    rw [hk]
    refine fn_of_run0 false Tryz.func15 rfl hmix rfl fun w0 => ?_
    conv => whnf
    refine ⟨trivial, LoadAt.cell _ rfl rfl (fun w hw => blk_cell (hw.in_ 1 rfl) rfl) ?_⟩
    conv => whnf
    repeat (first | (refine ⟨fun _ => ?_, fun h => absurd h (by decide)⟩; conv => whnf) | (refine ⟨fun h => absurd h (by decide), fun _ => ?_⟩; conv => whnf))
    refine ⟨trivial, CallAt.fn (pre := [tkH lb b0 off m0 c0 (k0), blkH ob 30 _]) _ (fun h s => s) (fun R' hR' => sRectT (fun w s => hN w (Sat.rest (hR' w s))) 1 o.x0 o.y0 o.x1 o.y1 hn0 hm0 hc0 (ha0.mono fun w s => Sat.rest (hR' w s)) (hz.sub 0 [o.x0, o.y0, o.x1, o.y1] rfl) ok.x0 ok.y0 ok.x1 ok.y1 ⟨0, rfl, i0⟩ ⟨0, rfl, i0⟩ ⟨0, rfl, i0⟩ ⟨0, rfl, i0⟩) ?_⟩
    rintro r hs ⟨rfl, rfl⟩
    conv => whnf
    exact ⟨trivial, .mk [tkH lb b0 off m0 c0 (k0 + 4), blkH ob 30 _] (fun w ⟨h, hs, s⟩ => by obtain ⟨h', e, s2⟩ := sub_front (m := [tkH lb b0 off m0 c0 (k0 + 4), blkH ob 30 _]) s; exact ⟨h', hs.mono e, s2⟩) ⟨rfl, rfl⟩⟩
end Go.Proofs.YtihkhomnhggifaaGreatDoor

