/-
  Texts of the proofs, one behind the other: ScAp, ScAq, ScAt, ScAu.
-/
import Derived.Test.YteplckkoiffnnaaGreatDoorSaC
import Derived.Test.YteplckkoiffnnaaGreatDoorSyPick
/-
  script.Answer: Sink, View, Route.
-/
namespace Go.Proofs.YteplckkoiffnnaaGreatDoor
open Go.RowKit
open Sy
set_option linter.unusedVariables false
set_option linter.unusedSimpArgs false
set_option maxRecDepth 100000
set_option maxHeartbeats 4000000

theorem sAnswer7 {R : HP} {q : RepA} {x : Rep} (hN : ∀ w, Sat R w → NumW w) (kind : Int) (ok : x.ok) (few : x.few) (hc : x.code = 0) (hs : RepS R q x) (hk : kind = 15) :
    FnR Tryz.prog R 7 [.int .i64 kind, repV q x] [] fun r hs => ∃ A c, r = .slice A (ans kind x).length c ∧ hs = [rowH (.slice A (ans kind x).length c) (ans kind x).length 9 1 (strV (ans kind x))] := by
  have hjl := ansJ_len ok few kind
  have hW : ansW kind x = x.cells.map celW := by unfold ansW; rw [if_neg (by omega), if_neg (by omega), if_neg (by omega), if_neg (by omega), if_neg (by omega), if_pos (by omega)]
  have hans : ans kind x = jn 32 (okT :: x.cells.map celW) :: [] := by
    unfold ans
    rw [if_neg (by simp [hc]), hW]
    unfold ansM
    rw [if_neg (by omega), if_neg (by omega)]
  rw [hW] at hjl
  rw [hans]
  unfold repV
  rw [hc]
  clear hans hW
  subst hk
  have hv := few.cells
  have hcl := fun R' (h : ∀ w, Sat R' w → Sat R w) => sCells (R := R') (c := q.c1) (fun w s => hN w (h w s)) x.cells rfl (by omega) ok.cells (hs.cells.mono h)
  have hlen : (x.cells.map celW).length = x.cells.length := List.length_map _
  generalize x.cells.map celW = us at *
  generalize x.cells.length = m at *
  refine fn_of_run0 false Tryz.func7 rfl hmix rfl fun w0 => ?_
  conv => whnf
  repeat (first | (refine ⟨fun _ => ?_, fun h => absurd h (by decide)⟩; conv => whnf) | (refine ⟨fun h => absurd h (by decide), fun _ => ?_⟩; conv => whnf))
  refine ⟨trivial, OpAt.lit [.string (bs okT)] 1 rfl rfl rfl rfl rfl (by decide) rfl rfl rfl (by simp [Value.cells]) rfl (by decide) fun g => ?_⟩
  conv => whnf
  repeat (first | (refine ⟨fun _ => ?_, fun h => absurd h (by decide)⟩; conv => whnf) | (refine ⟨fun h => absurd h (by decide), fun _ => ?_⟩; conv => whnf))
  refine ⟨trivial, RegAt.groups0 [([.T 0, .T 1, .T 2, .T 3, .T 4, .T 5, .T 6, .H 7, .H 8], 9), ([.T 9], 10), ([.T 10], 11), ([.H 11], 12)] hmix (by kernel_rfl) ?_⟩
  conv => whnf
  refine ⟨trivial, CallAt.fn (pre := []) _ (fun h s => s) (fun R' hR' => hcl R' fun w s => Sat.rest (hR' w s)) ?_⟩
  rintro r hs' ⟨A1, c1, rfl, rfl⟩
  conv => whnf
  refine ⟨trivial, ⟨⟨rfl, rfl⟩, fun h s => sub_nil s⟩, ?_⟩
  conv => whnf
  refine ⟨trivial, OpAt.append (.slice (some ⟨g, 0, none⟩) 1 1) 1 1 16 (strV [okT]) (strV us) A1 m c1 _ rfl (fun h s => sepL_pull 1 s) rfl rfl rfl rfl rfl rfl rfl rfl rfl (by decide) (fun w hw => rowH_reads rfl (hw.in_ 0 rfl)) (by simp [Value.oneCell']) (by simp only [maxLen]; omega) (by omega) fun A2 c2 => ?_⟩
  conv => whnf
  refine ⟨trivial, ⟨⟨rfl, rfl⟩, fun h s => sub_nil s⟩, ?_⟩
  conv => whnf
  refine ⟨trivial, ?_⟩
  conv => whnf
  have e : 1 + m = (okT :: us).length := by simp; omega
  rw [e]
  refine ⟨trivial, CallAt.pure (fun R' hR' => sJoinR 32 (okT :: us) (fun w s => (hR' w s).in_ 0 rfl) (by simp) hjl (by simp; omega)) ?_⟩
  conv => whnf
  refine ⟨trivial, OpAt.lit [.string (bs (jn 32 (okT :: us)))] 1 rfl rfl rfl rfl rfl (by decide) rfl rfl rfl (by simp [Value.cells]) rfl (by decide) fun g9 => ?_⟩
  conv => whnf
  refine ⟨trivial, OpAt.append (.slice (some ⟨g9, 0, none⟩) 1 1) 1 1 16 [.string (bs (jn 32 (okT :: us)))] [] none 0 0 _ rfl (fun h s => s) rfl rfl rfl rfl rfl rfl rfl rfl rfl (by decide) (fun w hw => Reads.empty) (by simp) (by decide) (by decide) fun A9 c9 => ?_⟩
  conv => whnf
  exact ⟨trivial, .mk [rowH (.slice A9 1 c9) 1 9 1 (strV [jn 32 (okT :: us)])] (fun w ⟨h, hs, s⟩ => by obtain ⟨h', e, s2⟩ := sub_head s; exact ⟨h', hs.mono e, s2⟩) ⟨A9, c9, rfl, rfl⟩⟩
end Go.Proofs.YteplckkoiffnnaaGreatDoor

/-
  script.Answer: Draw, other kinds, errors.
-/
namespace Go.Proofs.YteplckkoiffnnaaGreatDoor
open Go.RowKit
open Sy
set_option linter.unusedVariables false
set_option linter.unusedSimpArgs false
set_option maxRecDepth 100000
set_option maxHeartbeats 4000000

theorem sAnswer8 {R : HP} {q : RepA} {x : Rep} (hN : ∀ w, Sat R w → NumW w) (kind : Int) (ok : x.ok) (few : x.few) (hc : x.code = 0) (hs : RepS R q x) (hk : kind ≠ 6 ∧ kind ≠ 7 ∧ kind ≠ 8 ∧ kind ≠ 9 ∧ kind ≠ 10 ∧ kind ≠ 11 ∧ kind ≠ 12 ∧ kind ≠ 13 ∧ kind ≠ 14 ∧ kind ≠ 15 ∧ kind ≠ 16 ∧ kind ≠ 17 ∧ kind ≠ 20 ∧ kind ≠ 21 ∧ kind ≠ 22 ∧ kind ≠ 23 ∧ kind ≠ 27) :
    FnR Tryz.prog R 7 [.int .i64 kind, repV q x] [] fun r hs => ∃ A c, r = .slice A (ans kind x).length c ∧ hs = [rowH (.slice A (ans kind x).length c) (ans kind x).length 9 1 (strV (ans kind x))] := by
  have hjl := ansJ_len ok few kind
  have hW : ansW kind x = [] := by unfold ansW; rw [if_neg (by omega), if_neg (by omega), if_neg (by omega), if_neg (by omega), if_neg (by omega), if_neg (by omega), if_neg (by omega), if_neg (by omega)]
  have hans : ans kind x = jn 32 (okT :: []) :: [] := by
    unfold ans
    rw [if_neg (by simp [hc]), hW]
    unfold ansM
    rw [if_neg (by omega), if_neg (by omega)]
  rw [hW] at hjl
  rw [hans]
  unfold repV
  rw [hc]
  clear hans hW
  refine fn_of_run0 false Tryz.func7 rfl hmix rfl fun w0 => ?_
  conv => whnf
  repeat (first | (refine ⟨fun _ => ?_, fun h => absurd h (by decide)⟩; conv => whnf) | (refine ⟨fun h => absurd h (by decide), fun _ => ?_⟩; conv => whnf))
  refine ⟨trivial, OpAt.lit [.string (bs okT)] 1 rfl rfl rfl rfl rfl (by decide) rfl rfl rfl (by simp [Value.cells]) rfl (by decide) fun g => ?_⟩
  conv => whnf
  repeat (refine ⟨fun h => absurd (of_decide_eq_true h) (by omega), fun _ => ?_⟩; conv => whnf)
  refine ⟨trivial, CallAt.pure (fun R' hR' => sJoinR (A := some ⟨g, 0, none⟩) (c := 1) 32 [okT] (fun w s => (hR' w s).in_ 0 rfl) (by simp) hjl (by simp)) ?_⟩
  conv => whnf
  refine ⟨trivial, OpAt.lit [.string (bs (jn 32 [okT]))] 1 rfl rfl rfl rfl rfl (by decide) rfl rfl rfl (by simp [Value.cells]) rfl (by decide) fun g9 => ?_⟩
  conv => whnf
  refine ⟨trivial, OpAt.append (.slice (some ⟨g9, 0, none⟩) 1 1) 1 1 16 [.string (bs (jn 32 [okT]))] [] none 0 0 _ rfl (fun h s => s) rfl rfl rfl rfl rfl rfl rfl rfl rfl (by decide) (fun w hw => Reads.empty) (by simp) (by decide) (by decide) fun A9 c9 => ?_⟩
  conv => whnf
  exact ⟨trivial, .mk [rowH (.slice A9 1 c9) 1 9 1 (strV [jn 32 [okT]])] (fun w ⟨h, hs, s⟩ => by obtain ⟨h', e, s2⟩ := sub_head s; exact ⟨h', hs.mono e, s2⟩) ⟨A9, c9, rfl, rfl⟩⟩
theorem sAnswer9 {R : HP} {q : RepA} {x : Rep} (hN : ∀ w, Sat R w → NumW w) (kind : Int) (ok : x.ok) (few : x.few) (hc : x.code = 0) (hs : RepS R q x) (hk : kind = 27) :
    FnR Tryz.prog R 7 [.int .i64 kind, repV q x] [] fun r hs => ∃ A c, r = .slice A (ans kind x).length c ∧ hs = [rowH (.slice A (ans kind x).length c) (ans kind x).length 9 1 (strV (ans kind x))] := by
  have hjl := ansJ_len ok few kind
  have hW : ansW kind x = [] := by unfold ansW; rw [if_neg (by omega), if_neg (by omega), if_neg (by omega), if_neg (by omega), if_neg (by omega), if_neg (by omega), if_neg (by omega), if_neg (by omega)]
  have hans : ans kind x = jn 32 (okT :: []) :: x.lines := by
    unfold ans
    rw [if_neg (by simp [hc]), hW]
    unfold ansM
    rw [if_neg (by omega), if_pos hk]
  rw [hW] at hjl
  rw [hans]
  unfold repV
  rw [hc]
  clear hans hW
  subst hk
  have hv := few.lines
  have hl := hs.lines
  have hll : (strV x.lines).length = x.lines.length := List.length_map _
  refine fn_of_run0 false Tryz.func7 rfl hmix rfl fun w0 => ?_
  conv => whnf
  repeat (first | (refine ⟨fun _ => ?_, fun h => absurd h (by decide)⟩; conv => whnf) | (refine ⟨fun h => absurd h (by decide), fun _ => ?_⟩; conv => whnf))
  refine ⟨trivial, OpAt.lit [.string (bs okT)] 1 rfl rfl rfl rfl rfl (by decide) rfl rfl rfl (by simp [Value.cells]) rfl (by decide) fun g => ?_⟩
  conv => whnf
  repeat (first | (refine ⟨fun _ => ?_, fun h => absurd h (by decide)⟩; conv => whnf) | (refine ⟨fun h => absurd h (by decide), fun _ => ?_⟩; conv => whnf))
  refine ⟨trivial, OpAt.append (.slice none 0 0) 0 1 16 [] (strV x.lines) q.A5 x.lines.length q.c5 [rowH (.slice (some ⟨g, 0, none⟩) 1 1) 1 9 1 (strV [okT])] rfl (fun h s => row_nil _ _ s) rfl rfl rfl rfl rfl rfl rfl rfl rfl (by decide) (fun w hw => hl w (Sat.rest hw)) (by simp [Value.oneCell']) (by simp only [maxLen]; omega) (by omega) fun A2 c2 => ?_⟩
  conv => whnf
  refine ⟨trivial, CallAt.pure (fun R' hR' => sJoinR (A := some ⟨g, 0, none⟩) (c := 1) 32 [okT] (fun w s => (hR' w s).in_ 1 rfl) (by simp) hjl (by simp)) ?_⟩
  conv => whnf
  refine ⟨trivial, OpAt.lit [.string (bs (jn 32 [okT]))] 1 rfl rfl rfl rfl rfl (by decide) rfl rfl rfl (by simp [Value.cells]) rfl (by decide) fun g9 => ?_⟩
  conv => whnf
  refine ⟨trivial, OpAt.append (.slice (some ⟨g9, 0, none⟩) 1 1) 1 1 16 [.string (bs (jn 32 [okT]))] (strV x.lines) A2 (0 + x.lines.length) c2 _ rfl (fun h s => s) rfl rfl rfl rfl rfl rfl rfl rfl rfl (by decide) (fun w hw => by have := rowH_reads rfl (hw.in_ 0 rfl); rwa [List.nil_append] at this) (by simp [Value.oneCell']) (by simp only [maxLen]; omega) (by omega) fun A9 c9 => ?_⟩
  conv => whnf
  have e : 1 + (0 + x.lines.length) = (jn 32 [okT] :: x.lines).length := by simp; omega
  refine ⟨trivial, .mk [rowH (.slice A9 (1 + (0 + x.lines.length)) c9) (1 + (0 + x.lines.length)) 9 1 (strV (jn 32 [okT] :: x.lines))] (fun w ⟨h, hs, s⟩ => by obtain ⟨h', e, s2⟩ := sub_head s; exact ⟨h', hs.mono e, s2⟩) ⟨A9, c9, ?_, ?_⟩⟩
  · rw [e]; rfl
  · rw [e]
theorem sAnswer10 {R : HP} {q : RepA} {x : Rep} (hN : ∀ w, Sat R w → NumW w) (kind : Int) (ok : x.ok) (hc : x.code ≠ 0) :
    FnR Tryz.prog R 7 [.int .i64 kind, repV q x] [] fun r hs => ∃ A c, r = .slice A (ans kind x).length c ∧ hs = [rowH (.slice A (ans kind x).length c) (ans kind x).length 9 1 (strV (ans kind x))] := by
  have hans : ans kind x = [errT ++ Lib.itoa x.code] := by unfold ans; rw [if_pos hc]
  have hl := itoa_len20 ok.code
  have hb := ok.code
  rw [hans]
  unfold repV
  generalize x.code = z at *
  have hpr := fun R' (h : ∀ w, Sat R' w → Sat R w) => sPrint (R := R') (fun w s => hN w (h w s)) z hb.1 hb.2
  generalize Lib.itoa z = t at *
  refine fn_of_run0 false Tryz.func7 rfl hmix rfl fun w0 => ?_
  conv => whnf
  refine iff_t (by simp [hc]) ?_
  conv => whnf
  refine ⟨trivial, CallAt.pure (fun R' hR' => hpr R' fun w s => Sat.rest (hR' w s)) ?_⟩
  conv => whnf
  rw [show (⟨#[101, 114, 114, 111, 114, 32]⟩ : ByteArray) = bs errT from rfl, bs_append]
  refine ⟨⟨trivial, by rw [bs_size, bs_size]; show 6 + t.length ≤ _; omega⟩, OpAt.lit [.string (bs (errT ++ t))] 1 rfl rfl rfl rfl rfl (by decide) rfl rfl rfl (by simp [Value.cells]) rfl (by decide) fun g => ?_⟩
  conv => whnf
  exact ⟨trivial, .mk _ (fun w s => s) ⟨_, _, rfl, rfl⟩⟩
end Go.Proofs.YteplckkoiffnnaaGreatDoor

/-
  script.Answer: Sink, View, Route.
-/
namespace Go.Proofs.YteplckkoiffnnaaGreatDoor
open Go.RowKit
open Sy
set_option linter.unusedVariables false
set_option linter.unusedSimpArgs false
set_option maxRecDepth 100000
set_option maxHeartbeats 4000000

theorem sAnswer12 {R : HP} {q : RepA} {x : Rep} (hN : ∀ w, Sat R w → NumW w) (kind : Int) (ok : x.ok) (few : x.few) (hc : x.code = 0) (hs : RepS R q x) (hk : kind = 16) :
    FnR Tryz.prog R 7 [.int .i64 kind, repV q x] [] fun r hs => ∃ A c, r = .slice A (ans kind x).length c ∧ hs = [rowH (.slice A (ans kind x).length c) (ans kind x).length 9 1 (strV (ans kind x))] := by
  have hjl := ansJ_len ok few kind
  have hW : ansW kind x = Lib.itoa x.n :: x.cells.map celW := by unfold ansW; rw [if_neg (by omega), if_neg (by omega), if_neg (by omega), if_pos (by omega)]
  have hans : ans kind x = jn 32 (okT :: Lib.itoa x.n :: x.cells.map celW) :: [] := by
    unfold ans
    rw [if_neg (by simp [hc]), hW]
    unfold ansM
    rw [if_neg (by omega), if_neg (by omega)]
  rw [hW] at hjl
  rw [hans]
  unfold repV
  rw [hc]
  clear hans hW
  have hv := few.cells
  have hcl := fun R' (h : ∀ w, Sat R' w → Sat R w) => sCells (R := R') (c := q.c1) (fun w s => hN w (h w s)) x.cells rfl (by omega) ok.cells (hs.cells.mono h)
  have hlen : (x.cells.map celW).length = x.cells.length := List.length_map _
  generalize x.cells.map celW = us at *
  generalize x.cells.length = m at *
  have e : 2 + m = (okT :: Lib.itoa x.n :: us).length := by simp; omega
  subst hk
  · skip
    refine fn_of_run0 false Tryz.func7 rfl hmix rfl fun w0 => ?_
    conv => whnf
    repeat (first | (refine ⟨fun _ => ?_, fun h => absurd h (by decide)⟩; conv => whnf) | (refine ⟨fun h => absurd h (by decide), fun _ => ?_⟩; conv => whnf))
    refine ⟨trivial, OpAt.lit [.string (bs okT)] 1 rfl rfl rfl rfl rfl (by decide) rfl rfl rfl (by simp [Value.cells]) rfl (by decide) fun g => ?_⟩
    conv => whnf
    repeat (first | (refine ⟨fun _ => ?_, fun h => absurd h (by decide)⟩; conv => whnf) | (refine ⟨fun h => absurd h (by decide), fun _ => ?_⟩; conv => whnf))
    refine ⟨trivial, (OpMk.expose 0 ?_).at⟩
    conv => whnf
    intro rb _
    refine OpMk.lit (ptrV rb [(1, x.n)]) 1 rfl rfl rfl rfl rfl (by decide) rfl rfl rfl (by simp [Value.cells]) rfl (by decide) fun g2 => ?_
    conv => whnf
    intro lb _
    conv => whnf
    refine ⟨trivial, CallAt.fn (pre := [lnH lb [okT], blkH rb 31 _]) _ (fun h s => sepL_perm ((List.Perm.swap _ _ _).cons _) (ln_new (ws := [okT]) (sepL_perm (List.Perm.swap _ _ _) (sepL_pull 3 s)))) (fun R' hR' => sNumbersO (fun w s => hN w (Sat.rest (hR' w s))) [okT] [(1, x.n)] rfl (by decide) (by decide) (Sl.row fun w s => (hR' w s).in_ 0 rfl) (fun p hp => by simp at hp; subst hp; exact ⟨rfl, ok.n⟩)) ?_⟩
    rintro r hs ⟨A, c, rest, rfl, rfl, rfl⟩
    conv => whnf
    refine ⟨trivial, RegAt.trees0 [((Tr.T 0 (Tr.T 1 (Tr.T 2 (Tr.T 3 (Tr.T 5 (Tr.C 4 (Tr.H 6 (Tr.H 7 (Tr.H 8 Tr.E))) 6 (Tr.C 4 (Tr.H 7 (Tr.H 8 Tr.E)) 7 (Tr.H 4 (Tr.H 8 Tr.E))))))))), 9), ((Tr.T 9 Tr.E), 10), ((Tr.T 10 Tr.E), 11), ((Tr.H 11 Tr.E), 12)] hmix (by kernel_rfl) ?_⟩
    conv => whnf
    refine ⟨?_, ?_⟩
    · refine ⟨trivial, LoadAt.cell (.slice A 2 c) rfl rfl (fun w hw => blk_cell (hw.in_ 0 rfl) rfl) ?_⟩
      conv => whnf
      refine ⟨trivial, ⟨⟨rfl, rfl⟩, fun h s => sub_nil s⟩, ?_⟩
      conv => whnf
      refine ⟨trivial, LoadAt.cell (.slice q.A1 m q.c1) rfl rfl (fun w hw => blk_cell (hw.in_ 2 rfl) rfl) ?_⟩
      conv => whnf
      refine ⟨trivial, ⟨⟨rfl, rfl⟩, fun h s => sub_nil s⟩, ?_⟩
      conv => whnf
      refine ⟨trivial, CallAt.fn (pre := []) _ (fun h s => s) (fun R' hR' => hcl R' fun w s => Sat.rest (hR' w s)) ?_⟩
      rintro r hs' ⟨A1, c1, rfl, rfl⟩
      conv => whnf
      refine ⟨trivial, ⟨⟨rfl, rfl⟩, fun h s => sub_nil s⟩, ?_⟩
      conv => whnf
      refine ⟨trivial, OpAt.append (.slice A 2 c) 2 1 16 (strV [okT, Lib.itoa x.n]) (strV us) A1 m c1 _ rfl (fun h s => sepL_pull 2 s) rfl rfl rfl rfl rfl rfl rfl rfl rfl (by decide) (fun w hw => rowH_reads rfl (hw.in_ 0 rfl)) (by simp [Value.oneCell']) (by simp only [maxLen]; omega) (by omega) fun A2 c2 => ?_⟩
      conv => whnf
      refine ⟨trivial, ⟨⟨rfl, rfl⟩, fun h s => sub_nil s⟩, ?_⟩
      conv => whnf
      refine ⟨trivial, OpAt.store lb 0 (.slice A2 (2 + m) c2) _ rfl (fun h s => sepL_pull 2 s) rfl rfl rfl rfl rfl (by simp [Value.cells, Value.oneCell']) (fun h r => blk_put (by show 0 + 1 ≤ 2; omega) r) ?_⟩
      conv => whnf
      refine ⟨trivial, ?_⟩
      conv => whnf
      refine ⟨trivial, ?_⟩
      conv => whnf
      rw [e]
      refine ⟨trivial, LoadAt.cell (.slice A2 (okT :: Lib.itoa x.n :: us).length c2) rfl rfl (fun w hw => blk_cell (hw.in_ 0 rfl) rfl) ?_⟩
      conv => whnf
      refine ⟨trivial, CallAt.pure (fun R' hR' => sJoinR 32 (okT :: Lib.itoa x.n :: us) (fun w s => (hR' w s).in_ 1 rfl) (by simp) hjl (by simp; omega)) ?_⟩
      conv => whnf
      refine ⟨trivial, OpAt.lit [.string (bs (jn 32 (okT :: Lib.itoa x.n :: us)))] 1 rfl rfl rfl rfl rfl (by decide) rfl rfl rfl (by simp [Value.cells]) rfl (by decide) fun g9 => ?_⟩
      conv => whnf
      refine ⟨trivial, OpAt.append (.slice (some ⟨g9, 0, none⟩) 1 1) 1 1 16 [.string (bs (jn 32 (okT :: Lib.itoa x.n :: us)))] [] none 0 0 _ rfl (fun h s => s) rfl rfl rfl rfl rfl rfl rfl rfl rfl (by decide) (fun w hw => Reads.empty) (by simp) (by decide) (by decide) fun A9 c9 => ?_⟩
      conv => whnf
      exact ⟨trivial, .mk [rowH (.slice A9 1 c9) 1 9 1 (strV [jn 32 (okT :: Lib.itoa x.n :: us)])] (fun w ⟨h, hs, s⟩ => by obtain ⟨h', e, s2⟩ := sub_head s; exact ⟨h', hs.mono e, s2⟩) ⟨A9, c9, rfl, rfl⟩⟩
    · refine ⟨trivial, LoadAt.cell (.slice q.A1 m q.c1) rfl rfl (fun w hw => blk_cell (hw.in_ 2 rfl) rfl) ?_⟩
      conv => whnf
      refine ⟨trivial, ⟨⟨rfl, rfl⟩, fun h s => sub_nil s⟩, ?_⟩
      conv => whnf
      refine ⟨?_, ?_⟩
      · refine ⟨trivial, LoadAt.cell (.slice A 2 c) rfl rfl (fun w hw => blk_cell (hw.in_ 0 rfl) rfl) ?_⟩
        conv => whnf
        refine ⟨trivial, ⟨⟨rfl, rfl⟩, fun h s => sub_nil s⟩, ?_⟩
        conv => whnf
        refine ⟨trivial, CallAt.fn (pre := []) _ (fun h s => s) (fun R' hR' => hcl R' fun w s => Sat.rest (hR' w s)) ?_⟩
        rintro r hs' ⟨A1, c1, rfl, rfl⟩
        conv => whnf
        refine ⟨trivial, ⟨⟨rfl, rfl⟩, fun h s => sub_nil s⟩, ?_⟩
        conv => whnf
        refine ⟨trivial, OpAt.append (.slice A 2 c) 2 1 16 (strV [okT, Lib.itoa x.n]) (strV us) A1 m c1 _ rfl (fun h s => sepL_pull 2 s) rfl rfl rfl rfl rfl rfl rfl rfl rfl (by decide) (fun w hw => rowH_reads rfl (hw.in_ 0 rfl)) (by simp [Value.oneCell']) (by simp only [maxLen]; omega) (by omega) fun A2 c2 => ?_⟩
        conv => whnf
        refine ⟨trivial, ⟨⟨rfl, rfl⟩, fun h s => sub_nil s⟩, ?_⟩
        conv => whnf
        refine ⟨trivial, OpAt.store lb 0 (.slice A2 (2 + m) c2) _ rfl (fun h s => sepL_pull 2 s) rfl rfl rfl rfl rfl (by simp [Value.cells, Value.oneCell']) (fun h r => blk_put (by show 0 + 1 ≤ 2; omega) r) ?_⟩
        conv => whnf
        refine ⟨trivial, ?_⟩
        conv => whnf
        refine ⟨trivial, ?_⟩
        conv => whnf
        rw [e]
        refine ⟨trivial, LoadAt.cell (.slice A2 (okT :: Lib.itoa x.n :: us).length c2) rfl rfl (fun w hw => blk_cell (hw.in_ 0 rfl) rfl) ?_⟩
        conv => whnf
        refine ⟨trivial, CallAt.pure (fun R' hR' => sJoinR 32 (okT :: Lib.itoa x.n :: us) (fun w s => (hR' w s).in_ 1 rfl) (by simp) hjl (by simp; omega)) ?_⟩
        conv => whnf
        refine ⟨trivial, OpAt.lit [.string (bs (jn 32 (okT :: Lib.itoa x.n :: us)))] 1 rfl rfl rfl rfl rfl (by decide) rfl rfl rfl (by simp [Value.cells]) rfl (by decide) fun g9 => ?_⟩
        conv => whnf
        refine ⟨trivial, OpAt.append (.slice (some ⟨g9, 0, none⟩) 1 1) 1 1 16 [.string (bs (jn 32 (okT :: Lib.itoa x.n :: us)))] [] none 0 0 _ rfl (fun h s => s) rfl rfl rfl rfl rfl rfl rfl rfl rfl (by decide) (fun w hw => Reads.empty) (by simp) (by decide) (by decide) fun A9 c9 => ?_⟩
        conv => whnf
        exact ⟨trivial, .mk [rowH (.slice A9 1 c9) 1 9 1 (strV [jn 32 (okT :: Lib.itoa x.n :: us)])] (fun w ⟨h, hs, s⟩ => by obtain ⟨h', e, s2⟩ := sub_head s; exact ⟨h', hs.mono e, s2⟩) ⟨A9, c9, rfl, rfl⟩⟩
      · refine ⟨trivial, CallAt.fn (pre := []) _ (fun h s => s) (fun R' hR' => hcl R' fun w s => Sat.rest (hR' w s)) ?_⟩
        rintro r hs' ⟨A1, c1, rfl, rfl⟩
        conv => whnf
        refine ⟨trivial, ⟨⟨rfl, rfl⟩, fun h s => sub_nil s⟩, ?_⟩
        conv => whnf
        refine ⟨trivial, LoadAt.cell (.slice A 2 c) rfl rfl (fun w hw => blk_cell (hw.in_ 1 rfl) rfl) ?_⟩
        conv => whnf
        refine ⟨trivial, ⟨⟨rfl, rfl⟩, fun h s => sub_nil s⟩, ?_⟩
        conv => whnf
        refine ⟨trivial, OpAt.append (.slice A 2 c) 2 1 16 (strV [okT, Lib.itoa x.n]) (strV us) A1 m c1 _ rfl (fun h s => sepL_pull 2 s) rfl rfl rfl rfl rfl rfl rfl rfl rfl (by decide) (fun w hw => rowH_reads rfl (hw.in_ 0 rfl)) (by simp [Value.oneCell']) (by simp only [maxLen]; omega) (by omega) fun A2 c2 => ?_⟩
        conv => whnf
        refine ⟨trivial, ⟨⟨rfl, rfl⟩, fun h s => sub_nil s⟩, ?_⟩
        conv => whnf
        refine ⟨trivial, OpAt.store lb 0 (.slice A2 (2 + m) c2) _ rfl (fun h s => sepL_pull 2 s) rfl rfl rfl rfl rfl (by simp [Value.cells, Value.oneCell']) (fun h r => blk_put (by show 0 + 1 ≤ 2; omega) r) ?_⟩
        conv => whnf
        refine ⟨trivial, ?_⟩
        conv => whnf
        refine ⟨trivial, ?_⟩
        conv => whnf
        rw [e]
        refine ⟨trivial, LoadAt.cell (.slice A2 (okT :: Lib.itoa x.n :: us).length c2) rfl rfl (fun w hw => blk_cell (hw.in_ 0 rfl) rfl) ?_⟩
        conv => whnf
        refine ⟨trivial, CallAt.pure (fun R' hR' => sJoinR 32 (okT :: Lib.itoa x.n :: us) (fun w s => (hR' w s).in_ 1 rfl) (by simp) hjl (by simp; omega)) ?_⟩
        conv => whnf
        refine ⟨trivial, OpAt.lit [.string (bs (jn 32 (okT :: Lib.itoa x.n :: us)))] 1 rfl rfl rfl rfl rfl (by decide) rfl rfl rfl (by simp [Value.cells]) rfl (by decide) fun g9 => ?_⟩
        conv => whnf
        refine ⟨trivial, OpAt.append (.slice (some ⟨g9, 0, none⟩) 1 1) 1 1 16 [.string (bs (jn 32 (okT :: Lib.itoa x.n :: us)))] [] none 0 0 _ rfl (fun h s => s) rfl rfl rfl rfl rfl rfl rfl rfl rfl (by decide) (fun w hw => Reads.empty) (by simp) (by decide) (by decide) fun A9 c9 => ?_⟩
        conv => whnf
        exact ⟨trivial, .mk [rowH (.slice A9 1 c9) 1 9 1 (strV [jn 32 (okT :: Lib.itoa x.n :: us)])] (fun w ⟨h, hs, s⟩ => by obtain ⟨h', e, s2⟩ := sub_head s; exact ⟨h', hs.mono e, s2⟩) ⟨A9, c9, rfl, rfl⟩⟩
end Go.Proofs.YteplckkoiffnnaaGreatDoor

/-
  script.Answer: Regions.
-/
namespace Go.Proofs.YteplckkoiffnnaaGreatDoor
open Go.RowKit
open Sy
set_option linter.unusedVariables false
set_option linter.unusedSimpArgs false
set_option maxRecDepth 100000
set_option maxHeartbeats 4000000

theorem ln_new0 {R : HP} {lb : Nat} {L : List HP} {h : Hl} (s : sepL (blkH lb 43 #[.slice none 0 0, .bool false] :: L) R h) : sepL (lnH lb [] :: L) R h :=
  ln_new (ws := []) (A := none) (c := 0) (sepL_perm (List.Perm.swap _ _ _) (show sepL (rowH (.slice none 0 0) 0 9 1 [] :: blkH lb 43 #[.slice none 0 0, .bool false] :: L) R h from row_nil (R := sepL (blkH lb 43 #[.slice none 0 0, .bool false] :: L) R) _ _ s))
theorem sRectO {R : HP} {lb b : Nat} {tb : TypeId} {cs : Array Value} (hN : ∀ w, Sat R w → NumW w) (ws : List (List UInt8)) (k : Nat) (x y z u : Int) (hw : ws.length ≤ 100000) (hx : cs[k]? = some (.int .i64 x)) (hy : cs[k + 1]? = some (.int .i64 y)) (hz : cs[k + 2]? = some (.int .i64 z)) (hu : cs[k + 3]? = some (.int .i64 u)) (bx : I64 x) (by' : I64 y) (bz : I64 z) (bu : I64 u) :
    FnR Tryz.prog R 16 [.pointer (some ⟨lb, 0, none⟩), .pointer (some ⟨b, k, none⟩)] [lnH lb ws, blkH b tb cs] fun r hs => ∃ A c rest, hs = lnP lb (ws ++ [Lib.itoa x, Lib.itoa y, Lib.itoa z, Lib.itoa u]) (A, c) ++ rest ∧ r = .tuple #[] ∧ rest = [blkH b tb cs] :=
  FnR.openLn (sRect hN ws k x y z u hw hx hy hz hu bx by' bz bu) (q := fun r rest => r = .tuple #[] ∧ rest = [blkH b tb cs]) fun v hs ⟨h1, h2⟩ => ⟨_, h2, h1, rfl⟩
theorem sAnswer13 {R : HP} {q : RepA} {x : Rep} (hN : ∀ w, Sat R w → NumW w) (kind : Int) (ok : x.ok) (few : x.few) (hc : x.code = 0) (hs : RepS R q x) (hk : kind = 14) :
    FnR Tryz.prog R 7 [.int .i64 kind, repV q x] [] fun r hs => ∃ A c, r = .slice A (ans kind x).length c ∧ hs = [rowH (.slice A (ans kind x).length c) (ans kind x).length 9 1 (strV (ans kind x))] := by
  have hjl := ansJ_len ok few kind
  have hW : ansW kind x = [Lib.itoa x.n] := by unfold ansW; rw [if_neg (by omega), if_neg (by omega), if_neg (by omega), if_neg (by omega), if_pos hk]
  have hans : ans kind x = jn 32 (okT :: [Lib.itoa x.n]) :: x.parts.map prtW := by
    unfold ans
    rw [if_neg (by simp [hc]), hW]
    unfold ansM
    rw [if_pos hk]
  rw [hW] at hjl
  rw [hans]
  clear hans hW
  refine FnR.of_sat fun wS hS => ?_
  obtain ⟨_, sa⟩ := hs.parts.spot (by omega) (sat_base hS)
  unfold repV
  rw [hc]
  subst hk
  have hv := few.parts
  have f0 : ∀ i (h : i < x.parts.length) (j : Nat) u, (prtL x.parts[i])[j]? = some u → (x.parts.flatMap prtL)[i * 8 + j]? = some u := fun i h j u hj => by
    have hjl : j < 8 := (List.getElem?_eq_some_iff.1 hj).1
    rw [flat_at (f := prtL) (s := 8) (fun _ => rfl) h hjl]
    exact hj
  have hok := ok.parts
  obtain ⟨m, hm⟩ : ∃ m, x.parts.length = m := ⟨_, rfl⟩
  rw [hm] at sa hv ⊢
  refine fn_of_run0 false Tryz.func7 rfl hmix rfl fun w0 => ?_
  conv => whnf
  repeat (first | (refine ⟨fun _ => ?_, fun h => absurd h (by decide)⟩; conv => whnf) | (refine ⟨fun h => absurd h (by decide), fun _ => ?_⟩; conv => whnf))
  refine ⟨trivial, OpAt.lit [.string (bs okT)] 1 rfl rfl rfl rfl rfl (by decide) rfl rfl rfl (by simp [Value.cells]) rfl (by decide) fun g => ?_⟩
  conv => whnf
  repeat (first | (refine ⟨fun _ => ?_, fun h => absurd h (by decide)⟩; conv => whnf) | (refine ⟨fun h => absurd h (by decide), fun _ => ?_⟩; conv => whnf))
  refine ⟨trivial, (OpMk.expose 0 ?_).at⟩
  conv => whnf
  intro rb _
  refine OpMk.lit (ptrV rb [(1, x.n)]) 1 rfl rfl rfl rfl rfl (by decide) rfl rfl rfl (by simp [Value.cells]) rfl (by decide) fun g2 => ?_
  conv => whnf
  intro lb _
  conv => whnf
  refine ⟨trivial, CallAt.fn (pre := [lnH lb [okT], blkH rb 31 _]) _ (fun h s => sepL_perm ((List.Perm.swap _ _ _).cons _) (ln_new (ws := [okT]) (sepL_perm (List.Perm.swap _ _ _) (sepL_pull 3 s)))) (fun R' hR' => sNumbersO (fun w s => hN w (Sat.rest (hR' w s))) [okT] [(1, x.n)] rfl (by decide) (by decide) (Sl.row fun w s => (hR' w s).in_ 0 rfl) (fun p hp => by simp at hp; subst hp; exact ⟨rfl, ok.n⟩)) ?_⟩
  rintro r hs ⟨A, c, rest, rfl, rfl, rfl⟩
  conv => whnf
  refine ⟨trivial, LoadAt.cell (.slice q.A3 m q.c3) rfl rfl (fun w hw => blk_cell (hw.in_ 2 rfl) rfl) ?_⟩
  conv => whnf
  refine ⟨trivial, LoopAt.heap (α := Nat × Option Addr × Nat) [5, 88, 89] (fun a => [(6, .v (.slice a.2.1 a.1 a.2.2)), (90, .v (.int .i64 (a.1 : Int)))]) (fun a => [rowH (.slice a.2.1 a.1 a.2.2) a.1 9 1 (strV ((x.parts.take a.1).map prtW)), blkH lb 43 #[.slice A 2 c, .bool false], rowH (.slice A 2 c) 2 9 1 (strV [okT, Lib.itoa x.n])]) (fun a => a.1 ≤ m) (fun a => m - a.1) (0, none, 0) (Nat.zero_le _) rfl ⟨⟨rfl, rfl⟩, ⟨rfl, rfl⟩, trivial⟩ ⟨⟨rfl, rfl⟩, ⟨rfl, rfl⟩, ⟨rfl, rfl⟩, trivial⟩ trivial (fun h s => by
    obtain ⟨h', e, s'⟩ := sub_front (m := [blkH lb 43 #[.slice A 2 c, .bool false], rowH (.slice A 2 c) 2 9 1 (strV [okT, Lib.itoa x.n])]) s
    exact ⟨h', e, row_nil _ _ s'⟩) ?_⟩
  rintro ⟨i, B, cb⟩ hi'
  simp only at hi'
  conv => whnf
  refine ⟨fun h => ?_, fun h => ?_⟩
  · have hi2 : i < m := by simpa using h
    rcases sa with sa | ⟨ab, off, hq3, sa⟩
    · omega
    rw [hq3]
    have hil : i < x.parts.length := by omega
    have f1 := f0 i hil
    have f3 : (x.parts.take (i + 1)).map prtW = (x.parts.take i).map prtW ++ [prtW x.parts[i]] := by rw [List.take_succ_eq_append_getElem hil, List.map_append]; rfl
    have hb := hok _ (List.getElem_mem hil)
    generalize x.parts[i] = p at *
    generalize (x.parts.take i).map prtW = us at *
    conv => whnf
    refine ⟨⟨trivial, by simp only; omega⟩, LoadAt.agg (prtL p) rfl rfl rfl (fun w hw j u hj => ?_) ?_⟩
    · simp only [Int.toNat_natCast, Nat.add_assoc]
      exact sa w (Sat.rest hw) _ _ (f1 j u hj)
    conv => whnf
    refine ⟨trivial, (OpMk.expose 2 ?_).at⟩
    conv => whnf
    intro pb _
    refine OpMk.lit (ptrV pb [(0, p.l), (1, p.a)]) 1 rfl rfl rfl rfl rfl (by decide) rfl rfl rfl (by simp [Value.cells]) rfl (by decide) fun g3 => ?_
    conv => whnf
    intro lb2 _
    conv => whnf
    refine ⟨trivial, CallAt.fn (pre := [lnH lb2 [], blkH pb 53 (prtL p).toArray]) _ (fun h s => sepL_perm ((List.Perm.swap _ _ _).cons _) (ln_new0 s)) (fun R' hR' => sNumbers (fun w s => hN w (Sat.rest (hR' w s))) [] [(0, p.l), (1, p.a)] rfl (by decide) (by decide) (Sl.row fun w s => (hR' w s).in_ 0 rfl) (fun p' hp => ?_)) ?_⟩
    · simp only [List.mem_cons, List.not_mem_nil, or_false] at hp
      rcases hp with rfl | rfl
      · exact ⟨rfl, hb.l⟩
      · exact ⟨rfl, hb.a⟩
    rintro r hs' ⟨rfl, rfl⟩
    conv => whnf
    refine ⟨trivial, CallAt.fn (pre := [lnH lb2 [Lib.itoa p.l, Lib.itoa p.a], blkH pb 53 (prtL p).toArray]) _ (fun h s => s) (fun R' hR' => sCell (fun w s => hN w (Sat.rest (hR' w s))) [Lib.itoa p.l, Lib.itoa p.a] 2 p.fx p.fy (by simp) rfl rfl hb.fx hb.fy) ?_⟩
    rintro r hs' ⟨rfl, rfl⟩
    conv => whnf
    refine ⟨trivial, CallAt.fn (pre := [lnH lb2 [Lib.itoa p.l, Lib.itoa p.a, Lib.itoa p.fx, Lib.itoa p.fy], blkH pb 53 (prtL p).toArray]) _ (fun h s => s) (fun R' hR' => sRectO (fun w s => hN w (Sat.rest (hR' w s))) [Lib.itoa p.l, Lib.itoa p.a, Lib.itoa p.fx, Lib.itoa p.fy] 4 p.x0 p.y0 p.x1 p.y1 (by simp) rfl rfl rfl rfl hb.x0 hb.y0 hb.x1 hb.y1) ?_⟩
    rintro r hs' ⟨A3, c3, rest, rfl, rfl, rfl⟩
    conv => whnf
    have hpl : (jn 32 ((prtN p).map Lib.itoa)).length ≤ 176 := by
      have := jn_len (c := 32) (ws := (prtN p).map Lib.itoa) (m := 21) fun w hw => by
        simp only [prtN, List.map_cons, List.map_nil, List.mem_cons, List.not_mem_nil, or_false] at hw
        rcases hw with rfl | rfl | rfl | rfl | rfl | rfl | rfl | rfl
        · exact itoa_len20 hb.l
        · exact itoa_len20 hb.a
        · exact itoa_len20 hb.fx
        · exact itoa_len20 hb.fy
        · exact itoa_len20 hb.x0
        · exact itoa_len20 hb.y0
        · exact itoa_len20 hb.x1
        · exact itoa_len20 hb.y1
      simpa [prtN] using this
    refine ⟨trivial, LoadAt.cell (.slice A3 ((prtN p).map Lib.itoa).length c3) rfl rfl (fun w hw => blk_cell (hw.in_ 0 rfl) rfl) ?_⟩
    conv => whnf
    refine ⟨trivial, CallAt.pure (fun R' hR' => sJoinR 32 ((prtN p).map Lib.itoa) (fun w s => (hR' w s).in_ 1 rfl) (by simp [prtN]) (by omega) (by simp [prtN])) ?_⟩
    conv => whnf
    refine ⟨trivial, OpAt.lit [.string (bs (prtW p))] 1 rfl rfl rfl rfl rfl (by decide) rfl rfl rfl (by simp [Value.cells]) rfl (by decide) fun g4 => ?_⟩
    conv => whnf
    refine ⟨trivial, OpAt.append (.slice B i cb) i 1 16 (strV us) [.string (bs (prtW p))] (some ⟨g4, 0, none⟩) 1 1 _ rfl (fun h s => sepL_pull 5 s) rfl rfl rfl rfl rfl rfl rfl rfl rfl (by decide) (fun w hw => rowH_reads rfl (hw.in_ 0 rfl)) (by simp [Value.oneCell']) (by simp only [maxLen]; omega) (by omega) fun B' cb' => ?_⟩
    conv => whnf
    refine ⟨⟨trivial, by unfold rng; simp only; omega⟩, Next.heap (i + 1, B', cb') (by simp only; omega) (by simp only; omega) ⟨⟨rfl, rfl⟩, ⟨rfl, rfl⟩, trivial⟩ ⟨⟨rfl, rfl⟩, ⟨rfl, rfl⟩, ⟨rfl, rfl⟩, trivial⟩ trivial rfl rfl fun h s => ?_⟩
    obtain ⟨h', e, s'⟩ := sub_pick [rowH (.slice B' (i + 1) cb') (i + 1) 9 1 (strV us ++ [.string (bs (prtW p))]), blkH lb 43 #[.slice A 2 c, .bool false], rowH (.slice A 2 c) 2 9 1 (strV [okT, Lib.itoa x.n])] _ (List.Perm.cons _ (List.perm_append_comm (l₁ := [_, _, _, _, _]) (l₂ := [_, _]))) s
    refine ⟨h', e, ?_⟩
    show sepL [rowH (.slice B' (i + 1) cb') (i + 1) 9 1 (strV ((x.parts.take (i + 1)).map prtW)), blkH lb 43 #[.slice A 2 c, .bool false], rowH (.slice A 2 c) 2 9 1 (strV [okT, Lib.itoa x.n])] R h'
    rw [f3]
    show sepL [rowH (.slice B' (i + 1) cb') (i + 1) 9 1 (List.map _ (us ++ [prtW p])), blkH lb 43 #[.slice A 2 c, .bool false], rowH (.slice A 2 c) 2 9 1 (strV [okT, Lib.itoa x.n])] R h'
    rw [List.map_append]
    exact s'
  · have hi3 : i = m := by simp at h; omega
    have e0 : x.parts.take i = x.parts := List.take_of_length_le (by omega)
    rw [e0]
    subst hi3
    have hll : (strV (x.parts.map prtW)).length = i := by simp; omega
    conv => whnf
    refine ⟨trivial, LoadAt.cell (.slice A [okT, Lib.itoa x.n].length c) rfl rfl (fun w hw => blk_cell (hw.in_ 1 rfl) rfl) ?_⟩
    conv => whnf
    refine ⟨trivial, CallAt.pure (fun R' hR' => sJoinR 32 [okT, Lib.itoa x.n] (fun w s => (hR' w s).in_ 2 rfl) (by simp) hjl (by simp)) ?_⟩
    conv => whnf
    refine ⟨trivial, OpAt.lit [.string (bs (jn 32 [okT, Lib.itoa x.n]))] 1 rfl rfl rfl rfl rfl (by decide) rfl rfl rfl (by simp [Value.cells]) rfl (by decide) fun g9 => ?_⟩
    conv => whnf
    refine ⟨trivial, OpAt.append (.slice (some ⟨g9, 0, none⟩) 1 1) 1 1 16 [.string (bs (jn 32 [okT, Lib.itoa x.n]))] (strV (x.parts.map prtW)) B i cb _ rfl (fun h s => s) rfl rfl rfl rfl rfl rfl rfl rfl rfl (by decide) (fun w hw => rowH_reads rfl (hw.in_ 0 rfl)) (by simp [Value.oneCell']) (by simp only [maxLen]; omega) (by omega) fun A9 c9 => ?_⟩
    conv => whnf
    have e : 1 + i = (jn 32 [okT, Lib.itoa x.n] :: x.parts.map prtW).length := by simp; omega
    refine ⟨trivial, .mk [rowH (.slice A9 (1 + i) c9) (1 + i) 9 1 (strV (jn 32 [okT, Lib.itoa x.n] :: x.parts.map prtW))] (fun w ⟨h, hs, s⟩ => by obtain ⟨h', e, s2⟩ := sub_head s; exact ⟨h', hs.mono e, s2⟩) ⟨A9, c9, ?_, ?_⟩⟩
    · rw [e]; rfl
    · rw [e]
end Go.Proofs.YteplckkoiffnnaaGreatDoor

