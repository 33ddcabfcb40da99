/-
  Symbolic runs: calls that panic; calls that are deferred; panics that are recovered.
-/
import Derived.Test.YteplckkoiffnnaaGreatDoorSyRules
import Derived.Defers
import Derived.Recover
import Derived.WalkSmall
namespace Go.Proofs.YteplckkoiffnnaaGreatDoor
open Go.RowKit
namespace Sy
set_option linter.unusedVariables false
set_option linter.unusedSimpArgs false

/-- called where 'pre' holds apart from R, the function panics -/
def PanR (P : Program) (R : HP) (f : FuncId) (args : List Value) (pre : List HP) (X : List PanicEntry → Prop) (RX : HP) : Prop :=
  ∀ w, Sat (sepL pre R) w → Calls P f args.toArray w fun e w' => ∃ ch, e = .panicked ch ∧ X ch ∧ Sat RX w' ∧ Wd w w'
/-- a walk in which panics may leave -/
def glX (P : Program) (R : HP) (w0 : World) (N : Nat) (tr : Bool) (B : List Nat) (X : List PanicEntry → Prop) (RX : HP) : Gl := ⟨P, R, w0, N, tr, B, [], X, RX, []⟩
def glD (P : Program) (R : HP) (w0 : World) (N : Nat) (tr : Bool) (B : List Nat) (d : Deferred) (X : List PanicEntry → Prop) (RX : HP) (AX : List (Nat × Value)) : Gl := ⟨P, R, w0, N, tr, B, [d], X, RX, AX⟩

theorem start_tm {G : Gl} {args : List Value} {pre : List HP} {N : Nat} {a : Act} (hN : args.length ≤ N) (hG : G.N = N) (hD : G.D = []) (ha : a = { tmps := args.toArray ++ Array.replicate (N - args.toArray.size) undef, defers := [] }) : Tm G ⟨startT 0 (toSVs args), [], 0, pre, True⟩ [] a := by
  subst ha
  refine ⟨by simp [hG]; omega, hD.symm, fun t x ht => ?_⟩
  obtain ⟨_, h2⟩ := startT_get ht
  simp only [Nat.sub_zero] at h2
  obtain ⟨v, h3, h4⟩ := denL_at (toSVs_den [] args) h2
  have hlt := (List.getElem?_eq_some_iff.1 h3).1
  refine ⟨by rw [hG]; omega, ?_⟩
  rw [h4]
  have h3' : args[t] = v := (List.getElem?_eq_some_iff.1 h3).2
  simp [Array.getElem?_append, hlt, h3']
theorem start_mem {G : Gl} {T : List (Nat × SV)} {pre : List HP} {w : World} (hB : G.B = []) (hw : G.w0 = w) (hs : Sat (sepL pre G.R) w) : Mem G ⟨T, [], 0, pre, True⟩ [] w := by
  obtain ⟨h, h1, h2⟩ := hs
  exact ⟨by rw [hw]; exact Wd.refl w, rfl, List.nodup_nil, fun b hb => (by cases hb), List.nodup_nil, fun x hx => (by cases hx), ⟨[], by rw [hB]; rfl⟩, h, h1, h2, fun x hx => (by cases hx)⟩

theorem pan_of_run0 {P : Program} {R : HP} {f : FuncId} {fn : Func} {c : Code} {args : List Value} {pre : List HP} (X : List PanicEntry → Prop) (RX : HP) (tr : Bool)
    (hf : P.funcs[f]? = some fn) (hb : fn.body = some c) (hm : P.follows .mixedOrders = true) (hN : Nat.ble args.length fn.ntmps = true)
    (h : ∀ w0, run (glX P R w0 fn.ntmps tr [] X RX) c ⟨startT 0 (toSVs args), [], 0, pre, True⟩ (fun _ => False) (fun _ _ => False) (fun _ => False)) :
    PanR P R f args pre X RX := by
  intro w hs
  have hN := Nat.le_of_ble_eq_true hN
  refine calls_of_wp hf hb ?_
  have hrun := run_sound (G := glX P R w fn.ntmps tr [] X RX) hm c (h w) (fun _ h => h.elim) (fun _ _ h => h.elim) (fun _ h => h.elim)
  refine hrun.2 [] _ w _ (fun e a w' hp => ?_) (start_tm (N := fn.ntmps) hN rfl rfl rfl) (start_mem rfl rfl hs) (fun _ _ _ _ h => h.elim) (fun _ _ _ _ _ h => h.elim) (fun _ _ _ _ h => h.elim)
  obtain ⟨ch, rfl, hd, _, h1, h2, h3⟩ := hp
  exact ⟨hd, ch, rfl, h1, h2, h3⟩

/-- the text's own panic -/
theorem OpAt.panic {G : Gl} {o : Oper} {st : St} {K : St → Prop} {x : Operand} (t : TypeId) (v : Value) (ho : o.op = .panic x) (hx : evR st x = .iface t v) (hr : allR st o.op.operands.toList = true) (hX : G.X [{ v := .iface t v, recovered := false }]) (hRX : ∀ w, Sat (sepL st.h G.R) w → Sat G.RX w) (ha : axAt G.AX st) : OpAt G o st K := by
  refine .px fun ρ a w m mm => ?_
  have hx' : a.eval x = .iface t v := by
    have := allR_sound m hr x (by rw [ho]; simp [Op.operands])
    rw [hx] at this
    exact this
  unfold Oper.wp
  have hrun : (execOp a.eval o).run G.P w = .halt (.panic (.iface t v)) w := by
    simp [execOp, ho, hx', run_panic_iface]
  rw [hrun]
  obtain ⟨h, h1, h2, _⟩ := mm.hp
  exact ⟨_, rfl, m.defs, axAt_sound m ha, hX, hRX w ⟨h, h1, h2⟩, mm.wd⟩
/-- a call that panics -/
theorem CallAt.pan {G : Gl} {f : FuncId} {args : List Value} {st : St} {K : SV → St → Prop} {pre : List HP} {X : List PanicEntry → Prop} {RX : HP} (rest : List HP) (hp : ∀ h, sepL st.h G.R h → sepL (pre ++ rest) G.R h) (hc : ∀ R' : HP, (∀ w, Sat R' w → Sat (sepL rest G.R) w) → PanR G.P R' f args pre X RX) (hX : ∀ ch, X ch → G.X ch) (hRX : ∀ w, Sat RX w → Sat G.RX w) (ha : axAt G.AX st) : CallAt G f args st K := by
  refine .px ha fun ρ w mm => ?_
  obtain ⟨h, h1, h2, _⟩ := mm.hp
  have h3 := hp h h2
  rw [sepL_append] at h3
  refine Calls.mono (hc (sepL rest G.R) (fun w s => s) w ⟨h, h1, h3⟩) ?_
  rintro e w' ⟨ch, rfl, k1, k2, k3⟩
  exact ⟨ch, rfl, hX _ k1, hRX _ k2, mm.wd.trans k3⟩

theorem wpList_append {P : Program} {ops : Array Oper} {Q : Exit → Act → World → Prop} {l2 : List Oper} : ∀ {l1 : List Oper} {a : Act} {w : World}, wpList P ops (Exit.then (wpList P ops Q l2) Q) l1 a w → wpList P ops Q (l1 ++ l2) a w
  | [], a, w, h => h
  | o :: l, a, w, h => by
    have out : LetsOut (Exit.then (wpList P ops Q l2) Q) → LetsOut Q := fun ⟨a, w, h⟩ => ⟨a, w, h⟩
    simp only [List.cons_append]
    unfold wpList at h ⊢
    split
    · rename_i hw
      rw [if_pos hw] at h
      rcases h with h | ⟨h1, h2⟩
      · left
        unfold Oper.wp at *
        generalize (execOp a.eval o).run P w = r at *
        cases r with
        | ok n w' =>
          cases n <;> simp only [Oper.upon] at h ⊢ <;> first
            | exact h.elim
            | exact wpList_append h
            | exact Calls.mono h fun e w'' he => by
                cases e with
                | returned v => exact wpList_append he
                | panicked c => exact he
                | outgrown => exact out he
            | exact Rows.mono h fun v w'' he => wpList_append he
        | halt x w' => cases x <;> simp only [Oper.upon] at h ⊢; exact h
      · exact .inr ⟨h1, out h2⟩
    · rename_i hw
      rw [if_neg hw] at h
      exact wpList_append h

/-- where the body of a function that defers ends: its parts; the slots of its results -/
inductive EndD (G : Gl) (st : St) (mid : List HP → Prop) : Prop
  | mk (hs : List HP) (h : ∀ w, Sat (sepL st.h G.R) w → Sat (sepL hs G.R) w) (ha : axAt G.AX st) (k : mid hs)
def endK (G : Gl) (mid : List HP → Prop) (st : St) : Prop := stp st fun st => EndD G st mid
theorem good_end {G : Gl} {mid : List HP → Prop} : Good (endK G mid) := fun st h => (stp_iff.1 h).1
theorem endK_sound {G : Gl} {mid : List HP → Prop} {st : St} {ρ : List Nat} {a : Act} {w : World} (h : endK G mid st) (m : Tm G st ρ a) (mm : Mem G st ρ w) : ∃ hs, mid hs ∧ Sat (sepL hs G.R) w ∧ axA G.AX a := by
  obtain ⟨_, ⟨hs, h1, h2, h3⟩⟩ := stp_iff.1 h
  obtain ⟨g, g1, g2, _⟩ := mm.hp
  exact ⟨hs, h3, h1 w ⟨g, g1, g2⟩, axAt_sound (st := { st with c := True }) (m.same rfl) h2⟩
def dfr (g : FuncId) (caps : List Value) : Deferred := { target := .fn (.func g) caps.toArray, args := #[] }
/-- what a function that defers asks, where the call is laid -/
structure DefD (P : Program) (R : HP) (w0 : World) (fn : Func) (d : Deferred) (X : List PanicEntry → Prop) (RX : HP) (AX : List (Nat × Value)) (mid : List HP → Prop) (post : Value → List HP → Prop) : Prop where
  ret : ∀ hs, mid hs → ∀ w a, Sat (sepL hs R) w → Wd w0 w → axA AX a → Leaves P fn a.tmps (fun e w' => ∃ v hs, e = .returned v ∧ post v hs ∧ Sat (sepL hs R) w' ∧ Wd w0 w') [d] .returning w
  pan : ∀ ch, X ch → ∀ w a, Sat RX w → Wd w0 w → axA AX a → Leaves P fn a.tmps (fun e w' => ∃ v hs, e = .returned v ∧ post v hs ∧ Sat (sepL hs R) w' ∧ Wd w0 w') [d] (.panicking ch) w
inductive DefAt (P : Program) (R : HP) (w0 : World) (tr : Bool) (fn : Func) (x : Operand) (rest : Code) (st : St) (post : Value → List HP → Prop) : Prop
  | mk (g : FuncId) (caps : List Value) (X : List PanicEntry → Prop) (RX : HP) (AX : List (Nat × Value)) (mid : List HP → Prop) (hx : evR st x = .func (.func g) #[] caps.toArray) (hr : isR st x = true) (hd : DefD P R w0 fn (dfr g caps) X RX AX mid post)
      (k : run (glD P R w0 fn.ntmps tr [] (dfr g caps) X RX AX) rest st (endK (glD P R w0 fn.ntmps tr [] (dfr g caps) X RX AX) mid) (fun _ _ => False) (endK (glD P R w0 fn.ntmps tr [] (dfr g caps) X RX AX) mid))
theorem fn_of_defer {P : Program} {R : HP} {f : FuncId} {fn : Func} {id : Nat} {os : Array Oper} {c0 rest : Code} {args : List Value} {pre : List HP} {post : Value → List HP → Prop} {os1 : List Oper} {od : Oper} {x : Operand} (tr : Bool)
    (hf : P.funcs[f]? = some fn) (hb : fn.body = some (.seq c0 (.seq (.region id os false) rest))) (hm : P.follows .mixedOrders = true) (hN : Nat.ble args.length fn.ntmps = true)
    (hos : os.toList = os1 ++ [od]) (hod : od.op = .defer { callee := .value x, args := #[], argTypes := #[] }) (hdst : od.dst = none) (hgd : od.guard = none)
    (h : ∀ w0, run (gl P R w0 fn.ntmps tr []) c0 ⟨startT 0 (toSVs args), [], 0, pre, True⟩ (fun st => opsG (op1 (gl P R w0 fn.ntmps tr [])) (gl P R w0 fn.ntmps tr []) (os1 ++ [od]) os1 st fun st => stp st fun st => DefAt P R w0 tr fn x rest st post) (fun _ _ => False) (fun _ => False)) :
    FnR P R f args pre post := by
  intro w hs
  have hN := Nat.le_of_ble_eq_true hN
  refine calls_of_wp_defers hf hb (wp_seq ?_)
  have nox : ∀ {Q : Exit → Act → World → Prop} e a w', PXE (gl P R w fn.ntmps tr []) e a w' → Q e a w' := fun e a w' hp => by obtain ⟨_, _, _, _, hf, _⟩ := hp; exact hf.elim
  have good0 : Good fun st => stp st fun st => DefAt P R w tr fn x rest st post := fun st h => (stp_iff.1 h).1
  have ops : ∀ {st : St}, (opsG (op1 (gl P R w fn.ntmps tr [])) (gl P R w fn.ntmps tr []) (os1 ++ [od]) os1 st fun st => stp st fun st => DefAt P R w tr fn x rest st post) → _ := fun {st} k => ops_sound (G := gl P R w fn.ntmps tr []) (step := op1 (gl P R w fn.ntmps tr [])) (fun h hK => op1_sound h hK) k good0
  have hr0 := run_sound (G := gl P R w fn.ntmps tr []) hm c0 (h w) (fun st h => (ops h).1) (fun _ _ h => h.elim) (fun _ h => h.elim)
  refine hr0.2 [] _ w _ nox (start_tm (N := fn.ntmps) hN rfl rfl rfl) (start_mem rfl rfl hs) (fun st ρ a w1 k m mm => ?_) (fun _ _ _ _ _ h => h.elim) (fun _ _ _ _ h => h.elim)
  refine wp_seq (wp_region_list ?_)
  rw [hos]
  have hosa : os = (os1 ++ [od]).toArray := by rw [← hos]
  refine wpList_append ?_
  rw [hosa]
  refine (ops k).2 ρ a w1 _ nox m mm (fun st2 ρ2 a2 w2 k2 m2 mm2 => ?_)
  obtain ⟨_, ⟨g, caps, X, RX, AX, mid, hx, hr, hd, k3⟩⟩ := stp_iff.1 k2
  show wpList P _ _ [od] a2 w2
  unfold wpList
  rw [if_pos (wanted_none hgd _)]
  left
  unfold Oper.wp
  have hev : a2.eval x = .func (.func g) #[] caps.toArray := by
    rw [isR_sound hr (m2.same (st' := { st2 with c := True }) rfl), hx]
  have hrun : (execOp a2.eval od).run P w2 = .ok (.defer (dfr g caps)) w2 := by
    simp [execOp, hod, resolve, hev, Deferred.ofValue, dfr]
  rw [hrun]
  simp only [Oper.upon, hdst]
  have m3 : Tm (glD P R w fn.ntmps tr [] (dfr g caps) X RX AX) { st2 with c := True } ρ2 { a2 with defers := dfr g caps :: a2.defers } := by
    refine ⟨m2.size, ?_, m2.get⟩
    show dfr g caps :: a2.defers = [dfr g caps]
    rw [m2.defs]
    rfl
  have mm3 : Mem (glD P R w fn.ntmps tr [] (dfr g caps) X RX AX) { st2 with c := True } ρ2 w2 := ⟨mm2.wd, mm2.len, mm2.nd, mm2.lt, mm2.no, mm2.ob, mm2.kn, mm2.hp⟩
  have hr1 := run_sound (G := glD P R w fn.ntmps tr [] (dfr g caps) X RX AX) hm rest k3 good_end (fun _ _ h => h.elim) good_end
  have fin : ∀ st ρ a w', endK (glD P R w fn.ntmps tr [] (dfr g caps) X RX AX) mid st → Tm (glD P R w fn.ntmps tr [] (dfr g caps) X RX AX) st ρ a → Mem (glD P R w fn.ntmps tr [] (dfr g caps) X RX AX) st ρ w' → Leaves P fn a.tmps (fun e w' => ∃ v hs, e = .returned v ∧ post v hs ∧ Sat (sepL hs R) w' ∧ Wd w w') a.defers .returning w' := by
    intro st ρ a w' k m mm
    obtain ⟨hs, k1, k2, k3⟩ := endK_sound k m mm
    rw [show a.defers = [dfr g caps] from m.defs]
    exact hd.ret hs k1 w' a k2 mm.wd k3
  refine hr1.2 ρ2 _ w2 _ (fun e a w' hp => ?_) m3 mm3 fin (fun _ _ _ _ _ h => h.elim) fin
  obtain ⟨ch, rfl, h1, h2, h3, h4, h5⟩ := hp
  show Leaves P fn a.tmps _ a.defers (.panicking ch) w'
  rw [h1]
  exact hd.pan ch h3 w' a h4 h5 h2

theorem leaves_one {P : Program} {fn : Func} {tmps : Array Value} {R : Ending → World → Prop} {g : FuncId} {caps : List Value} {u : FrameMode} {w : World} (hen : canEnter P g = true) (hu : u ≠ .run)
    (h : CallsD P g caps.toArray u w fun e u' w' => (∃ v, e = .returned v) ∧ settle u' = .returning ∧ ∃ v, (results fn tmps).run P w' = .ok v w' ∧ R (.returned v) w') : Leaves P fn tmps R [dfr g caps] u w := by
  have hi : (invoke (.fn (.func g) caps.toArray) #[]).run P w = .ok (.enter g caps.toArray) w := by
    unfold canEnter at hen
    split at hen
    · rename_i fn hf
      split at hen
      · rename_i cd hb
        have hn : fn.name ≠ "runtime.NumGoroutine" := by simpa using hen
        simp [invoke, callFunc, program, Sem.run, hf, hb, hn]
      · cases hen
    · cases hen
  refine leaves_cons hu hi (h.mono ?_)
  rintro e u' w' ⟨⟨v, rfl⟩, hs, v2, h1, h2⟩
  show Leaves P fn tmps R [] (settle u') w'
  rw [hs]
  exact ⟨v2, h1, h2⟩

/-- what recover hands back, and how the frame below goes on -/
def RecAt (u : FrameMode) (r : Value) (u' : FrameMode) : Prop := ∀ (c : Frame) (cs : List Frame), c.mode = u → recoverD (c :: cs) = some (r, { c with mode := u' } :: cs) ∨ (recoverD (c :: cs) = none ∧ r = .nilIface ∧ u' = u)
theorem rec_pan (v : Value) : RecAt (.panicking [{ v := v, recovered := false }]) v (.panicking [{ v := v, recovered := true }]) := fun c cs h => .inl (by simp [recoverD, h])
theorem rec_idle : RecAt .returning .nilIface .returning := fun c cs h => .inr ⟨by simp [recoverD, h], rfl, rfl⟩
/-- a deferred call whose first operation is recover -/
theorem cls_of_run {P : Program} {R : HP} {f : FuncId} {fn : Func} {id d : Nat} {orec : Oper} {rest : Code} {args : List Value} {pre : List HP} {mid : List HP → Prop} {u u' : FrameMode} {r : Value} (tr : Bool)
    (hf : P.funcs[f]? = some fn) (hb : fn.body = some (.seq (.region id #[orec] false) rest)) (hm : P.follows .mixedOrders = true) (hN : Nat.ble args.length fn.ntmps = true) (hres : fn.results = #[])
    (ho : orec.op = .call { callee := .builtin .recover, args := #[], argTypes := #[] }) (hg : orec.guard = none) (hdst : orec.dst = some d) (hu : RecAt u r u')
    (h : ∀ w0, putK (gl P R w0 fn.ntmps tr []) ⟨startT 0 (toSVs args), [], 0, pre, True⟩ (some d) (.v r) none fun st => run (gl P R w0 fn.ntmps tr []) rest st (endK (gl P R w0 fn.ntmps tr []) mid) (fun _ _ => False) (endK (gl P R w0 fn.ntmps tr []) mid)) :
    ∀ w, Sat (sepL pre R) w → CallsD P f args.toArray u w fun e x w' => (∃ v, e = .returned v) ∧ x = u' ∧ ∃ hs, mid hs ∧ Sat (sepL hs R) w' ∧ Wd w w' := by
  intro w hs
  have hN := Nat.le_of_ble_eq_true hN
  refine callsD_of_wpS hf hb fun c₀ cs hc => ?_
  refine wpS_seq (wpS_region ?_)
  have hG : Good fun st => run (gl P R w fn.ntmps tr []) rest st (endK (gl P R w fn.ntmps tr []) mid) (fun _ _ => False) (endK (gl P R w fn.ntmps tr []) mid) := fun st h => (run_sound hm rest h good_end (fun _ _ h => h.elim) good_end).1
  obtain ⟨_, hp⟩ := putK_sound (h w) hG
  obtain ⟨st', k, m', mm'⟩ := hp [] _ w r rfl (start_tm (N := fn.ntmps) hN rfl rfl rfl) (start_mem (G := gl P R w fn.ntmps tr []) rfl rfl hs)
  have hr1 := run_sound (G := gl P R w fn.ntmps tr []) hm rest k good_end (fun _ _ h => h.elim) good_end
  have hres2 : ∀ (tmps : Array Value) (w' : World), (results fn tmps).run P w' = .ok (.tuple #[]) w' := fun tmps w' => results_run (vs := []) (by rw [hres]; rfl)
  have fin : ∀ cs' : List Frame, cs' = { c₀ with mode := u' } :: cs → ∀ (e : Exit), (e = .normal ∨ e = .ret) → ∀ st ρ a w', endK (gl P R w fn.ntmps tr []) mid st → Tm (gl P R w fn.ntmps tr []) st ρ a → Mem (gl P R w fn.ntmps tr []) st ρ w' →
      bodyPostS P fn c₀ cs (fun e x w' => (∃ v, e = .returned v) ∧ x = u' ∧ ∃ hs, mid hs ∧ Sat (sepL hs R) w' ∧ Wd w w') e a cs' w' := by
    rintro cs' rfl e he st ρ a w' k m mm
    obtain ⟨hs, k1, k2, _⟩ := endK_sound k m mm
    rcases he with rfl | rfl
    · exact ⟨m.defs, u', rfl, _, hres2 _ _, ⟨_, rfl⟩, rfl, hs, k1, k2, mm.wd⟩
    · exact ⟨m.defs, u', rfl, _, hres2 _ _, ⟨_, rfl⟩, rfl, hs, k1, k2, mm.wd⟩
  have go : ∀ cs' : List Frame, cs' = { c₀ with mode := u' } :: cs → rest.wpS P (bodyPostS P fn c₀ cs fun e x w' => (∃ v, e = .returned v) ∧ x = u' ∧ ∃ hs, mid hs ∧ Sat (sepL hs R) w' ∧ Wd w w') (Act.put { tmps := args.toArray ++ Array.replicate (fn.ntmps - args.toArray.size) undef, defers := [] } (some d) r) cs' w := by
    intro cs' hcs
    refine wpS_of_wp (hr1.2 [] _ w _ (fun e a w' hp => by obtain ⟨_, _, _, _, hf, _⟩ := hp; exact hf.elim) m' mm' (fin cs' hcs .normal (.inl rfl)) (fun _ _ _ _ _ h => h.elim) (fin cs' hcs .ret (.inr rfl)))
  have hrun : ∀ ev : Operand → Value, (execOp ev orec).run P w = .ok .recover w := fun ev => by
    simp [execOp, ho, resolve, invoke, builtin]
  have hwt : ∀ y, Region.wanted orec y = true := fun y => wanted_none hg y
  show wpOpsS P #[orec] _ [0] _ _ w
  simp only [wpOpsS, List.getElem?_toArray, List.getElem?_cons_zero, hwt, if_true, hrun, hdst]
  rcases hu c₀ cs hc with e | ⟨e, rfl, rfl⟩
  · rw [e]
    exact go _ rfl
  · rw [e]
    refine go _ ?_
    rw [← hc]
/-- the cells of two results -/
theorem results_two {P : Program} {fn : Func} {tmps : Array Value} {i j : Nat} {t s : TypeId} {p q : Nat} {dt ds : TypeDesc} {v u : Value} {w : World} (hr : fn.results = #[.cell i t, .cell j s]) (ht : P.underlying t = some dt) (hdt : dt.isRow = false) (hs : P.underlying s = some ds) (hds : ds.isRow = false)
    (hi : tmps.getD i undef = .pointer (some ⟨p, 0, none⟩)) (hj : tmps.getD j undef = .pointer (some ⟨q, 0, none⟩)) (hv : w.cell? ⟨p, 0, none⟩ = some v) (hu : w.cell? ⟨q, 0, none⟩ = some u) : (results fn tmps).run P w = .ok (.tuple #[v, u]) w := by
  have key : ∀ {t : TypeId} {d : TypeDesc} {b : Nat} {x : Value}, P.underlying t = some d → d.isRow = false → w.cell? ⟨b, 0, none⟩ = some x → (loadVar t ⟨b, 0, none⟩).run P w = .ok x w := by
    intro t d b x hu hd hc
    have hagg : (isAgg t).run P w = .ok false w := by
      unfold isAgg
      rw [Sem.run_bind, run_underlying hu w]
      cases d <;> simp_all
    simp [loadVar, hagg, load, Sem.run, hc]
  have k1 := key ht hdt hv
  have k2 := key hs hds hu
  refine results_run (vs := [v, u]) ?_
  rw [hr]
  show Sem.run P ([ResultVar.cell i t, .cell j s].mapM (rv tmps)) w = _
  have r1 : (rv tmps (.cell i t)).run P w = .ok v w := by simp only [rv, hi, asAddr, Sem.run_bind, Sem.run_pure, Result.andThen_ok, k1]
  have r2 : (rv tmps (.cell j s)).run P w = .ok u w := by simp only [rv, hj, asAddr, Sem.run_bind, Sem.run_pure, Result.andThen_ok, k2]
  rw [List.mapM_cons, List.mapM_cons]
  simp [r1, r2]
end Sy
end Go.Proofs.YteplckkoiffnnaaGreatDoor
