/-
  Texts of the proofs, one behind the other: ScAn.
-/
import Derived.Test.YtihkhomnhggifaaGreatDoorSPg10
import Derived.Test.YtihkhomnhggifaaGreatDoorSPg23
/-
  script.Answer.
-/
namespace Go.Proofs.YtihkhomnhggifaaGreatDoor
open Go.RowKit
open Sy
set_option linter.unusedVariables false
set_option linter.unusedSimpArgs false
set_option maxRecDepth 100000
set_option maxHeartbeats 4000000

theorem FnR.openLn {P : Program} {R : HP} {f : FuncId} {args : List Value} {pre : List HP} {p : Value → List HP → Prop} {q : Value → List HP → Prop} {lb : Nat} {ws : List (List UInt8)} (h : FnR P R f args pre p) (hp : ∀ v hs, p v hs → ∃ rest, hs = lnH lb ws :: rest ∧ q v rest) :
    FnR P R f args pre fun r hs => ∃ A c rest, hs = lnP lb ws (A, c) ++ rest ∧ q r rest := by
  refine h.seen fun v hs hv w s => ?_
  obtain ⟨rest, rfl, hq⟩ := hp v hs hv
  obtain ⟨g, g1, s⟩ := s
  obtain ⟨⟨A, c⟩, s⟩ := boxH_open s
  exact ⟨_, ⟨A, c, rest, rfl, hq⟩, g, g1, s⟩
/-- a line of its own -/
theorem ln_new {R : HP} {lb : Nat} {A : Option Addr} {c : Nat} {ws : List (List UInt8)} {L : List HP} {h : Hl} (s : sepL (blkH lb 51 #[.slice A ws.length c, .bool false] :: rowH (.slice A ws.length c) ws.length 9 1 (strV ws) :: L) R h) : sepL (lnH lb ws :: L) R h :=
  boxH_shut (parts := lnP lb ws) (A, c) s
theorem sJoinR {R : HP} {A : Option Addr} {c : Nat} (d : UInt8) (ws : List (List UInt8)) (h : ∀ w, Sat R w → Sat (rowH (.slice A ws.length c) ws.length 9 1 (strV ws)) w) (h0 : ws ≠ []) (hl : (jn d ws).length ≤ 1000000000) (hN : ws.length ≤ 1000000000) : PureR Tryz.prog R 16 [.slice A ws.length c, .string (bs [d])] (.string (bs (jn d ws))) :=
  PureR.of_sat fun w s => sJoinC d ws rfl (row_capS (h w s)) (Sl.row fun w s => h w s) (List.length_pos_iff.2 h0) (by omega) (by omega)
/-- few enough -/
structure Rep.few (x : Rep) : Prop where
  cells : x.cells.length ≤ 500
  vals : x.vals.length ≤ 500
  parts : x.parts.length ≤ 500
  byts : x.byts.length ≤ 2000
  lines : x.lines.length ≤ 100
theorem ansW_ok {x : Rep} (ok : x.ok) (few : x.few) (kind : Int) : (ansW kind x).length ≤ 501 ∧ ∀ w ∈ ansW kind x, w.length ≤ 20000 := by
  have hn := itoa_len20 ok.n
  have hx := itoa_len20 ok.ax
  have hy := itoa_len20 ok.ay
  have hv := listW_len ok.vals
  have hc1 := few.cells
  have hv1 := few.vals
  have hb1 := few.byts
  have hh : (hexW x.byts).length ≤ 4001 := by
    unfold hexW
    split
    · simp
    · rw [hexT_len]; omega
  have hc : ∀ w ∈ x.cells.map celW, w.length ≤ 43 := fun w hw => by
    obtain ⟨c, hc, rfl⟩ := List.mem_map.1 hw
    have h1 := itoa_len20 (ok.cells c hc).1
    have h2 := itoa_len20 (ok.cells c hc).2
    simp [celW]; omega
  unfold ansW
  split
  · exact ⟨by simp, fun w hw => by simp at hw; subst hw; omega⟩
  split
  · exact ⟨by simp, fun w hw => by simp at hw; rcases hw with rfl | rfl | rfl <;> omega⟩
  split
  · split
    · exact ⟨by simp, fun w hw => by simp at hw; subst hw; decide⟩
    · exact ⟨by simp, fun w hw => by simp only [List.mem_cons, List.not_mem_nil, or_false] at hw; rcases hw with rfl | rfl | rfl <;> first | omega | decide⟩
  split
  · refine ⟨by simp; omega, fun w hw => ?_⟩
    rcases List.mem_cons.1 hw with rfl | hw
    · omega
    · have := hc w hw; omega
  split
  · exact ⟨by simp, fun w hw => by simp at hw; subst hw; omega⟩
  split
  · exact ⟨by simp; omega, fun w hw => by have := hc w hw; omega⟩
  split
  · exact ⟨by simp, fun w hw => by simp at hw; rcases hw with rfl | rfl | rfl <;> omega⟩
  split
  · exact ⟨by simp, fun w hw => by simp at hw; subst hw; omega⟩
  · exact ⟨by simp, fun w hw => by simp at hw⟩
theorem ansJ_len {x : Rep} (ok : x.ok) (few : x.few) (kind : Int) : (jn 32 (okT :: ansW kind x)).length ≤ 1000000000 := by
  obtain ⟨h1, h2⟩ := ansW_ok ok few kind
  have := jn_len (c := 32) (ws := okT :: ansW kind x) (m := 20000) fun w hw => by
    rcases List.mem_cons.1 hw with rfl | hw
    · decide
    · exact h2 w hw
  rw [List.length_cons] at this
  have h3 : ((ansW kind x).length + 1) * (20000 + 1) ≤ 502 * 20001 := Nat.mul_le_mul (by omega) (by omega)
  omega
theorem sNumbersO {R : HP} {lb b : Nat} {tb : TypeId} {cs : Array Value} {A : Option Addr} {m c : Nat} (hN : ∀ w, Sat R w → NumW w) (ws : List (List UInt8)) (ps : List (Nat × Int)) (hm : ps.length = m) (hm2 : m ≤ 100) (hw : ws.length ≤ 100000) (ha : Sl R A m 1 (ptrV b ps)) (hp : ∀ p ∈ ps, cs[p.1]? = some (.int .i64 p.2) ∧ I64 p.2) :
    FnR Tryz.prog R 31 [.pointer (some ⟨lb, 0, none⟩), .slice A m c] [lnH lb ws, blkH b tb cs] fun r hs => ∃ A c rest, hs = lnP lb (ws ++ itoas ps) (A, c) ++ rest ∧ r = .tuple #[] ∧ rest = [blkH b tb cs] :=
  FnR.openLn (sNumbers hN ws ps hm hm2 hw ha hp) (q := fun r rest => r = .tuple #[] ∧ rest = [blkH b tb cs]) fun v hs ⟨h1, h2⟩ => ⟨_, h2, h1, rfl⟩
theorem sAnswer1 {R : HP} {q : RepA} {x : Rep} (hN : ∀ w, Sat R w → NumW w) (kind : Int) (ok : x.ok) (few : x.few) (hc : x.code = 0) (hk : kind = 6 ∨ kind = 7 ∨ kind = 10 ∨ kind = 11 ∨ kind = 20 ∨ kind = 21 ∨ kind = 22) :
    FnR Tryz.prog R 47 [.int .i64 kind, repV q x] [] fun r hs => ∃ A c, r = .slice A (ans kind x).length c ∧ hs = [rowH (.slice A (ans kind x).length c) (ans kind x).length 9 1 (strV (ans kind x))] := by
  have hjl := ansJ_len ok few kind
  have hW : ansW kind x = [Lib.itoa x.n] := by unfold ansW; rw [if_pos hk]
  have hans : ans kind x = [jn 32 [okT, Lib.itoa x.n]] := by
    unfold ans
    rw [if_neg (by simp [hc]), hW]
    unfold ansM
    rw [if_neg (by omega), if_neg (by omega)]
  rw [hW] at hjl
  rw [hans]
  unfold repV
  rw [hc]
  clear hans hW
  rcases hk with rfl | rfl | rfl | rfl | rfl | rfl | rfl
  all_goals
    refine fn_of_run0 false Tryz.func47 rfl hmix rfl fun w0 => ?_
    conv => whnf
    repeat (first | (refine ⟨fun _ => ?_, fun h => absurd h (by decide)⟩; conv => whnf) | (refine ⟨fun h => absurd h (by decide), fun _ => ?_⟩; conv => whnf))
    refine ⟨trivial, OpAt.lit [.string (bs okT)] 1 rfl rfl rfl rfl rfl (by decide) rfl rfl rfl (by simp [Value.cells]) rfl (by decide) fun g => ?_⟩
    conv => whnf
    repeat (first | (refine ⟨fun _ => ?_, fun h => absurd h (by decide)⟩; conv => whnf) | (refine ⟨fun h => absurd h (by decide), fun _ => ?_⟩; conv => whnf))
    refine ⟨trivial, (OpMk.expose 0 ?_).at⟩
    conv => whnf
    intro rb _
    refine OpMk.lit (ptrV rb [(1, x.n)]) 1 rfl rfl rfl rfl rfl (by decide) rfl rfl rfl (by simp [Value.cells]) rfl (by decide) fun g2 => ?_
    conv => whnf
    intro lb _
    conv => whnf
    refine ⟨trivial, CallAt.fn (pre := [lnH lb [okT], blkH rb 112 _]) _ (fun h s => sepL_perm ((List.Perm.swap _ _ _).cons _) (ln_new (ws := [okT]) (sepL_perm (List.Perm.swap _ _ _) (sepL_pull 3 s)))) (fun R' hR' => sNumbersO (fun w s => hN w (Sat.rest (hR' w s))) [okT] [(1, x.n)] rfl (by decide) (by decide) (Sl.row fun w s => (hR' w s).in_ 0 rfl) (fun p hp => by simp at hp; subst hp; exact ⟨rfl, ok.n⟩)) ?_⟩
    rintro r hs ⟨A, c, rest, rfl, rfl, rfl⟩
    conv => whnf
    refine ⟨trivial, LoadAt.cell (.slice A [okT, Lib.itoa x.n].length c) rfl rfl (fun w hw => blk_cell (hw.in_ 0 rfl) rfl) ?_⟩
    conv => whnf
    refine ⟨trivial, CallAt.pure (fun R' hR' => sJoinR 32 [okT, Lib.itoa x.n] (fun w s => (hR' w s).in_ 1 rfl) (by simp) hjl (by simp)) ?_⟩
    conv => whnf
    refine ⟨trivial, OpAt.lit [.string (bs (jn 32 [okT, Lib.itoa x.n]))] 1 rfl rfl rfl rfl rfl (by decide) rfl rfl rfl (by simp [Value.cells]) rfl (by decide) fun g9 => ?_⟩
    conv => whnf
    refine ⟨trivial, OpAt.append (.slice (some ⟨g9, 0, none⟩) 1 1) 1 1 16 [.string (bs (jn 32 [okT, Lib.itoa x.n]))] [] none 0 0 _ rfl (fun h s => s) rfl rfl rfl rfl rfl rfl rfl rfl rfl (by decide) (fun w hw => Reads.empty) (by simp) (by decide) (by decide) fun A9 c9 => ?_⟩
    conv => whnf
    exact ⟨trivial, .mk [rowH (.slice A9 1 c9) 1 9 1 (strV [jn 32 [okT, Lib.itoa x.n]])] (fun w ⟨h, hs, s⟩ => by obtain ⟨h', e, s2⟩ := sub_head s; exact ⟨h', hs.mono e, s2⟩) ⟨A9, c9, rfl, rfl⟩⟩
end Go.Proofs.YtihkhomnhggifaaGreatDoor

