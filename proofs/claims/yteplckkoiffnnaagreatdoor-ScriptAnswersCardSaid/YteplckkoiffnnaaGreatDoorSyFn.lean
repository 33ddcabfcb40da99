/-
  Symbolic runs: what a function keeps to; how a run shows it.
-/
import Derived.Test.YteplckkoiffnnaaGreatDoorSyCode
namespace Go.Proofs.YteplckkoiffnnaaGreatDoor
open Go.RowKit
namespace Sy
set_option linter.unusedVariables false
set_option linter.unusedSimpArgs false

/-- called where 'pre' holds apart from R, the function returns; then 'post' holds apart from R -/
def FnR (P : Program) (R : HP) (f : FuncId) (args : List Value) (pre : List HP) (post : Value → List HP → Prop) : Prop :=
  ∀ w, Sat (sepL pre R) w → Calls P f args.toArray w fun e w' => ∃ v hs, e = .returned v ∧ post v hs ∧ Sat (sepL hs R) w' ∧ Wd w w'

def startT : Nat → List SV → List (Nat × SV)
  | _, [] => []
  | n, x :: l => (n, x) :: startT (n + 1) l
theorem startT_get : ∀ {l : List SV} {n t : Nat} {x : SV}, getT (startT n l) t = some x → n ≤ t ∧ l[t - n]? = some x
  | [], n, t, x, h => by cases h
  | y :: l, n, t, x, h => by
    simp only [startT, getT] at h
    split at h
    · rename_i e
      have := beq_of e
      subst this
      injection h with h
      subst h
      simp
    · obtain ⟨h1, h2⟩ := startT_get h
      refine ⟨by omega, ?_⟩
      have : t - n = (t - (n + 1)) + 1 := by omega
      rw [this]
      simpa using h2

/-- blocks that come in, known whole -/
def adL (l : List (Nat × TypeId × List Value)) : List HP := l.map fun x => blkH x.1 x.2.1 x.2.2.toArray
def adO : Nat → List (Nat × TypeId × List Value) → List (Nat × TypeId × List SV)
  | _, [] => []
  | n, x :: l => (n, x.2.1, toSVs x.2.2) :: adO (n + 1) l
theorem adO_mem : ∀ {l : List (Nat × TypeId × List Value)} {n : Nat} {y : Nat × TypeId × List SV}, y ∈ adO n l → n ≤ y.1 ∧ ∃ x, l[y.1 - n]? = some x ∧ y.2 = (x.2.1, toSVs x.2.2)
  | [], n, y, h => by cases h
  | x :: l, n, y, h => by
    rcases List.mem_cons.1 h with rfl | h
    · exact ⟨Nat.le_refl _, x, by simp, rfl⟩
    · obtain ⟨h1, z, h2, h3⟩ := adO_mem h
      refine ⟨by omega, z, ?_, h3⟩
      have : y.1 - n = (y.1 - (n + 1)) + 1 := by omega
      rw [this]
      simpa using h2
theorem adO_nodup : ∀ {l : List (Nat × TypeId × List Value)} {n : Nat}, ((adO n l).map (·.1)).Nodup
  | [], n => by simp [adO]
  | x :: l, n => by
    simp only [adO, List.map_cons, List.nodup_cons]
    refine ⟨fun h => ?_, adO_nodup⟩
    obtain ⟨y, hy, e⟩ := List.mem_map.1 h
    have := (adO_mem hy).1
    omega
theorem ad_open : ∀ {l : List (Nat × TypeId × List Value)} {A : HP} {h : Hl}, sepL (adL l) A h →
    ∃ h', A h' ∧ (∀ i o, h' i = some o → h i = some o) ∧ (∀ x ∈ l, h x.1 = some (.cells x.2.2.toArray x.2.1 (0, 0)) ∧ h' x.1 = none) ∧ (l.map (·.1)).Nodup
  | [], A, h, s => ⟨h, s, fun _ _ e => e, by simp, by simp⟩
  | x :: l, A, h, s => by
    obtain ⟨h1, h2, d, rfl, hb, s'⟩ := s
    obtain ⟨h', a, sub, hx, nd⟩ := ad_open (l := l) s'
    have h1x : h1 x.1 = some (.cells x.2.2.toArray x.2.1 (0, 0)) := by rw [hb]; simp
    have h2x : h2 x.1 = none := by
      rcases d x.1 with e | e
      · rw [h1x] at e; cases e
      · exact e
    have lift : ∀ i o, h2 i = some o → un h1 h2 i = some o := fun i o e => by
      unfold un
      rcases d i with e' | e'
      · rw [e', e]; rfl
      · rw [e'] at e; cases e
    have hn : h' x.1 = none := by
      cases e : h' x.1 with
      | none => rfl
      | some o => have := sub _ _ e; rw [h2x] at this; cases this
    refine ⟨h', a, fun i o e => lift _ _ (sub i o e), fun y hy => ?_, ?_⟩
    · rcases List.mem_cons.1 hy with rfl | hy
      · exact ⟨by unfold un; rw [h1x]; rfl, hn⟩
      · exact ⟨lift _ _ (hx y hy).1, (hx y hy).2⟩
    · simp only [List.map_cons, List.nodup_cons]
      refine ⟨fun hm => ?_, nd⟩
      obtain ⟨y, hy, e⟩ := List.mem_map.1 hm
      have := (hx y hy).1
      rw [e, h2x] at this
      cases this

def mkRes (vs : List Value) : Value := match vs with
  | [v] => v
  | vs => .tuple vs.toArray
inductive Fin (G : Gl) (v : Value) (st : St) (post : Value → List HP → Prop) : Prop
  | mk (hs : List HP) (h : ∀ w, Sat (sepL st.h G.R) w → Sat (sepL hs G.R) w) (k : post v hs)
def resK (P : Program) (st : St) : List ResultVar → (List SV → Prop) → Prop
  | [], K => K []
  | .tmp t :: l, K => match getT st.t t with
    | some x => resK P st l fun r => K (x :: r)
    | none => False
  | .cell t ty :: l, K => match getT st.t t with
    | some (.p n off) => match getO st.o n with
      | some (_, cs) => qLoad P ty cs off False fun x _ => resK P st l fun r => K (x :: r)
      | none => False
    | _ => False
def retK (G : Gl) (fn : Func) (post : Value → List HP → Prop) (st : St) : Prop :=
  resK G.P st fn.results.toList fun xs => expA G False xs [] st fun vs st => stp st fun st => Fin G (mkRes vs) st post

def rv (tmps : Array Value) : ResultVar → Sem Value
  | .tmp t => pure (tmps.getD t undef)
  | .cell b t => do loadVar t (← asAddr (tmps.getD b undef))
theorem resK_sound {P : Program} {st : St} : ∀ {l : List ResultVar} {K : List SV → Prop}, resK P st l K → ∃ xs, K xs ∧ ∀ G ρ a w, Tm G st ρ a → Ob st ρ w → ∃ vs, denL ρ xs = some vs ∧ Sem.run P (l.mapM (rv a.tmps)) w = Result.ok vs w
  | [], K, h => ⟨[], h, fun G ρ a w m ob => ⟨[], rfl, rfl⟩⟩
  | .tmp t :: l, K, h => by
    simp only [resK] at h
    split at h
    · rename_i x hx
      obtain ⟨xs, h, e⟩ := resK_sound (l := l) h
      refine ⟨_, h, fun G ρ a w m ob => ?_⟩
      obtain ⟨vs, e1, e2⟩ := e G ρ a w m ob
      refine ⟨_, denL_cons.2 ⟨_, _, (m.get _ _ hx).2, e1, rfl⟩, ?_⟩
      rw [List.mapM_cons]
      simp [e2, rv]
    · exact h.elim
  | .cell t ty :: l, K, h => by
    simp only [resK] at h
    split at h
    · rename_i n off hx
      split at h
      · rename_i ty' cs hg
        rcases qLoad_sound h with h | ⟨x, h, hl⟩
        · exact h.elim
        obtain ⟨xs, h, e⟩ := resK_sound (l := l) h
        refine ⟨_, h, fun G ρ a w m ob => ?_⟩
        obtain ⟨vs, e1, e2⟩ := e G ρ a w m ob
        obtain ⟨b, us, g1, g2, g3⟩ := ob _ (getO_mem hg)
        simp only at g1 g2 g3
        obtain ⟨v, k1, k2⟩ := hl ρ w b _ us g2 g3
        refine ⟨_, denL_cons.2 ⟨_, _, k1, e1, rfl⟩, ?_⟩
        have hp := (m.get _ _ hx).2
        simp only [SV.den, g1, Option.map_some, Option.some.injEq] at hp
        have k3 : (loadVar ty ⟨b, off, none⟩).run P w = .ok v w := by simpa [Instr.loadAt, Instr.sureAddr] using k2
        have k4 : (rv a.tmps (.cell t ty)).run P w = .ok v w := by
          simp only [rv, ← hp, asAddr, Sem.run_bind, Sem.run_pure, Result.andThen_ok, k3]
        rw [List.mapM_cons]
        simp [e2, k4]
      · exact h.elim
    · exact h.elim

theorem results_run {P : Program} {fn : Func} {tmps : Array Value} {vs : List Value} {w : World} (h : Sem.run P (fn.results.toList.mapM (rv tmps)) w = Result.ok vs w) : (results fn tmps).run P w = .ok (mkRes vs) w := by
  have e : results fn tmps = (do let vs ← fn.results.mapM (rv tmps); pure (if h : vs.size = 1 then vs[0] else .tuple vs)) := by
    unfold results
    congr 1
  rw [e, Array.mapM_eq_mapM_toList]
  simp only [Sem.run_bind, Sem.run_map, h, Result.andThen_ok, Sem.run_pure, bind_map_left]
  unfold mkRes
  match vs with
  | [] => simp
  | [v] => simp
  | a :: b :: l => simp

def gl (P : Program) (R : HP) (w0 : World) (N : Nat) (tr : Bool) (B : List Nat) : Gl := ⟨P, R, w0, N, tr, B, [], fun _ => False, R, []⟩
theorem good_ret {G : Gl} {fn : Func} {post : Value → List HP → Prop} : Good (retK G fn post) := by
  intro st h
  obtain ⟨xs, h, _⟩ := resK_sound h
  rcases (expA_sound h).1 with h | ⟨_, st', e, h⟩
  · exact h.elim
  · rw [← e]; exact (stp_iff.1 h).1
theorem Sub.mono {h h' : Hl} {w : World} (s : Sub h w) (e : ∀ i o, h' i = some o → h i = some o) : Sub h' w := fun i o x => s i o (e i o x)

theorem fn_of_run {P : Program} {R : HP} {f : FuncId} {fn : Func} {c : Code} {args : List Value} {rest : List HP} {post : Value → List HP → Prop} (tr : Bool) (l : List (Nat × TypeId × List Value)) (xs : List SV)
    (hf : P.funcs[f]? = some fn) (hb : fn.body = some c) (hm : P.follows .mixedOrders = true) (hN : Nat.ble args.length fn.ntmps = true) (hd : denL (l.map (·.1)) xs = some args)
    (h : ∀ w0, run (gl P R w0 fn.ntmps tr (l.map (·.1))) c ⟨startT 0 xs, adO 0 l, l.length, rest, True⟩ (retK (gl P R w0 fn.ntmps tr (l.map (·.1))) fn post) (fun _ _ => False) (retK (gl P R w0 fn.ntmps tr (l.map (·.1))) fn post)) :
    FnR P R f args (adL l ++ rest) post := by
  intro w hs
  have hN := Nat.le_of_ble_eq_true hN
  obtain ⟨hp, hsub, hsep⟩ := hs
  rw [sepL_append] at hsep
  obtain ⟨h', hr, sub, hx, nd⟩ := ad_open hsep
  have fin : ∀ e, (e = Exit.normal ∨ e = Exit.ret) → ∀ st ρ a w', retK (gl P R w fn.ntmps tr (l.map (·.1))) fn post st → Tm (gl P R w fn.ntmps tr (l.map (·.1))) st ρ a → Mem (gl P R w fn.ntmps tr (l.map (·.1))) st ρ w' →
      bodyPost P fn (fun e w' => ∃ v hs, e = .returned v ∧ post v hs ∧ Sat (sepL hs R) w' ∧ Wd w w') e a w' := by
    intro e he st ρ a w' k m mm
    obtain ⟨xs, k, hx⟩ := resK_sound k
    obtain ⟨vs, e1, e2⟩ := hx _ ρ a w' m mm.ob
    rcases (expA_sound k).2 ρ a w' (by simp) m mm with k | ⟨vs', st', k, e3, m', mm'⟩
    · exact k.elim
    obtain ⟨_, ⟨hs, hent, k⟩⟩ := stp_iff.1 k
    rw [e1] at e3
    injection e3 with e3
    subst e3
    have hsat : Sat (sepL hs R) w' := by
      obtain ⟨g, g1, g2, _⟩ := mm'.hp
      exact hent w' ⟨g, g1, g2⟩
    rcases he with rfl | rfl
    · exact ⟨m.defs, _, results_run e2, _, hs, rfl, k, hsat, mm.wd⟩
    · exact ⟨m.defs, _, results_run e2, _, hs, rfl, k, hsat, mm.wd⟩
  refine calls_of_wp hf hb ?_
  have hrun := run_sound (G := gl P R w fn.ntmps tr (l.map (·.1))) hm c (h w) good_ret (fun _ _ h => h.elim) good_ret
  refine hrun.2 (l.map (·.1)) _ w _ (fun e a w hp => by obtain ⟨_, _, _, _, hf, _⟩ := hp; exact hf.elim) ⟨?_, rfl, ?_⟩ ⟨Wd.refl w, by simp, nd, ?_, adO_nodup, ?_, ⟨[], by simp [gl]⟩, h', ?_, hr, ?_⟩ (fin .normal (.inl rfl)) (fun _ _ _ _ _ h => h.elim) (fin .ret (.inr rfl))
  · simp [gl]; omega
  · intro t x ht
    obtain ⟨_, h2⟩ := startT_get ht
    simp only [Nat.sub_zero] at h2
    obtain ⟨v, h3, h4⟩ := denL_at hd h2
    have hlt := (List.getElem?_eq_some_iff.1 h3).1
    refine ⟨by simp only [gl]; omega, ?_⟩
    rw [h4]
    have h3' : args[t] = v := (List.getElem?_eq_some_iff.1 h3).2
    simp [Array.getElem?_append, hlt, h3']
  · intro b hb'
    obtain ⟨x, hx1, rfl⟩ := List.mem_map.1 hb'
    have := hsub _ _ (hx x hx1).1
    exact (Array.getElem?_eq_some_iff.1 this).1
  · intro y hy
    obtain ⟨_, x, h2, h3⟩ := adO_mem hy
    simp only [Nat.sub_zero] at h2
    have hxm : x ∈ l := List.mem_of_getElem? h2
    refine ⟨x.1, x.2.2, by simp [h2], ?_, ?_⟩
    · rw [h3]; exact toSVs_den _ _
    · rw [h3]; exact hsub _ _ (hx x hxm).1
  · exact hsub.mono sub
  · intro y hy b hb'
    obtain ⟨_, x, h2, h3⟩ := adO_mem hy
    simp only [Nat.sub_zero] at h2
    have hxm : x ∈ l := List.mem_of_getElem? h2
    have : b = x.1 := by simpa [h2] using hb'.symm
    rw [this]
    exact (hx x hxm).2
/-- the same, where no block is known whole -/
theorem fn_of_run0 {P : Program} {R : HP} {f : FuncId} {fn : Func} {c : Code} {args : List Value} {pre : List HP} {post : Value → List HP → Prop} (tr : Bool)
    (hf : P.funcs[f]? = some fn) (hb : fn.body = some c) (hm : P.follows .mixedOrders = true) (hN : Nat.ble args.length fn.ntmps = true)
    (h : ∀ w0, run (gl P R w0 fn.ntmps tr []) c ⟨startT 0 (toSVs args), [], 0, pre, True⟩ (retK (gl P R w0 fn.ntmps tr []) fn post) (fun _ _ => False) (retK (gl P R w0 fn.ntmps tr []) fn post)) :
    FnR P R f args pre post := fn_of_run tr [] (toSVs args) hf hb hm hN (toSVs_den _ _) h
end Sy
end Go.Proofs.YteplckkoiffnnaaGreatDoor
