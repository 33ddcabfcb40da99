/-
  Symbolic runs: regions by groups that keep only what is read; parts of the heap that are made of parts.
-/
import Derived.Test.YteplckkoiffnnaaGreatDoorSyMem
import Derived.Laws.StructEq
import Derived.ChangeKeysEq
namespace Go.Proofs.YteplckkoiffnnaaGreatDoor
open Go.RowKit
namespace Sy
set_option linter.unusedVariables false
set_option linter.unusedSimpArgs false

theorem sub_nil {R : HP} : ∀ {l : List HP} {h : Hl}, sepL l R h → ∃ h' : Hl, (∀ i o, h' i = some o → h i = some o) ∧ sepL [] R h'
  | [], h, s => ⟨h, fun _ _ e => e, s⟩
  | A :: l, h, s => by
    obtain ⟨h1, e1, s1⟩ := sub_tail s
    obtain ⟨h2, e2, s2⟩ := sub_nil s1
    exact ⟨h2, fun i o e => e1 i o (e2 i o e), s2⟩
/-- groups that keep the objects, and what is only read -/
def grpsG0 (G : Gl) (all : List Oper) : List (List Stp × Nat) → St → (St → Prop) → Prop
  | [], st, K => stp st K
  | (g, _) :: r, st, K => grpG G all (hasT g) { st with h := [] } g st fun st => grpsG0 G all r st K
theorem grpsG0_good {G : Gl} {all : List Oper} {K : St → Prop} : ∀ gs : List (List Stp × Nat), Good fun st => grpsG0 G all gs st K
  | [] => good_stp
  | (g, n) :: r => fun st h => grpG_good (grpsG0_good r) g _ h
theorem mem_nil {G : Gl} {st : St} {ρ : List Nat} {w : World} (m : Mem G st ρ w) : Mem G { st with h := [] } ρ w := by
  obtain ⟨m1, m2, m3, m4, m5, m6, mk, hh, m7, m8, m9⟩ := m
  obtain ⟨h', e, s⟩ := sub_nil m8
  refine ⟨m1, m2, m3, m4, m5, m6, mk, h', m7.mono e, s, fun x hx b hb => ?_⟩
  have := m9 x hx b hb
  cases c : h' b with
  | none => rfl
  | some o => rw [e b o c] at this; cases this
theorem grps0_sound {G : Gl} {all : List Oper} {Q : Exit → Act → World → Prop} {K : St → Prop} (hx : ∀ e a w, PXE G e a w → Q e a w) (hsel : Region.noSelect all.toArray = true) (hQ : ∀ o ∈ all, ∀ v c a w, Q (.panic c) (Act.put a o.dst v) w → Q (.panic c) a w) (hend : ∀ st ρ a w, K st → Tm G st ρ a → Mem G st ρ w → Q .normal a w) :
    ∀ (gs : List (List Stp × Nat)) (ls : Array Bool) (st : St) (ρ : List Nat) (a : Act) (w : World), grpsB all.toArray gs ls = true → grpsG0 G all gs st K → Tm G st ρ a → Mem G st ρ w → wpAny G.P .any all.toArray Q (grpLen gs) ls a w
  | [], ls, st, ρ, a, w, hB, h, m, mm => by
    simp only [grpsB, decide_eq_true_eq] at hB
    exact ⟨hB, hend { st with c := True } ρ a w (stp_iff.1 h).2 (m.same rfl) (mm.same rfl rfl rfl)⟩
  | (g, n) :: r, ls, st, ρ, a, w, hB, h, m, mm => by
    simp only [grpsB, Bool.and_eq_true, Bool.or_eq_true, decide_eq_true_eq] at hB
    obtain ⟨hw, hh, hs⟩ := hB
    have key := grp_sound (F := fun ls' => grpsB all.toArray r ls') (kp := hasT g) (st0 := { st with h := [] }) (ρ0 := ρ) hx hsel hQ hw (grpsG0_good r) g ls st ρ a w (headW_spec hh) hs h m mm fun _ => ⟨rfl, rfl, rfl, mem_nil mm⟩
    exact HdG.any (g := grpLen r) (fun ls' a' w' ⟨⟨hF, _⟩, st', ρ', k, m', mm'⟩ => grps0_sound hx hsel hQ hend r ls' st' ρ' a' w' hF k m' mm') _ _ _ _ key
theorem RegAt.groups0 {G : Gl} {id : Nat} {l : List Oper} {st : St} {K : St → Prop} (gs : List (List Stp × Nat)) (hm : G.P.follows .mixedOrders = true) (hB : groupsB l gs = true) (h : grpsG0 G l gs st K) (hax : axFree G.AX l = true := by rfl) : RegAt G id l.toArray st K := by
  simp only [groupsB, Bool.and_eq_true, decide_eq_true_eq] at hB
  obtain ⟨h1, h2, h3⟩ := hB
  refine .mk fun ρ a w m mm => ?_
  refine wp_region_any hm ?_
  have key := grps0_sound (Q := fun e a' w' => (e = .normal ∧ ∃ st' ρ', K st' ∧ Tm G st' ρ' a' ∧ Mem G st' ρ' w') ∨ PXE G e a' w') (fun e a w hp => .inr hp) h1 (fun o ho v c a w hq => by rcases hq with ⟨hq, _⟩ | hq; cases hq; exact .inr (hq.put (axFree_spec hax o ho))) (fun st ρ a w k m mm => .inl ⟨rfl, st, ρ, k, m, mm⟩) gs _ st ρ a _ h3 h m mm.drew
  rw [h2] at key
  simpa using key
/-- nothing -/
def emp : HP := fun h => ∀ i, h i = none
theorem emp_un {h g : Hl} (e : ∀ i, h i = none) : un h g = g := by funext i; simp [un, e i]
theorem sepL_emp {R : HP} : ∀ {l : List HP} {h1 h2 : Hl}, sepL l emp h1 → Dj h1 h2 → R h2 → sepL l R (un h1 h2)
  | [], h1, h2, e, _, r => by rw [emp_un e]; exact r
  | A :: l, h1, h2, s, d, r => by
    obtain ⟨a1, a2, d', rfl, a, s⟩ := s
    obtain ⟨d1, d2⟩ := d.un_left
    exact ⟨a1, un a2 h2, (Dj.un_of d'.symm d1.symm).symm, un_assoc _ _ _, a, sepL_emp s d2 r⟩
theorem emp_sepL {R : HP} : ∀ {l : List HP} {h : Hl}, sepL l R h → sep (sepL l emp) R h
  | [], h, r => ⟨fun _ => none, h, fun _ => .inl rfl, by rw [emp_un (fun _ => rfl)], fun _ => rfl, r⟩
  | A :: l, h, s => by
    obtain ⟨h1, h2, d, rfl, a, s⟩ := s
    obtain ⟨g1, g2, d2, rfl, s1, s2⟩ := emp_sepL s
    obtain ⟨d3, d4⟩ := d.symm.un_left
    exact ⟨un h1 g1, g2, Dj.un_of d4.symm d2, by rw [un_assoc], ⟨h1, g1, d3.symm, rfl, a, s1⟩, s2⟩
/-- a part that is some parts, laid out in some way -/
def boxH {α : Type} (parts : α → List HP) : HP := fun h => ∃ x, sepL (parts x) emp h
theorem boxH_open {α : Type} {parts : α → List HP} {l : List HP} {R : HP} {h : Hl} (s : sepL (boxH parts :: l) R h) : ∃ x, sepL (parts x ++ l) R h := by
  obtain ⟨h1, h2, d, rfl, ⟨x, a⟩, s⟩ := s
  refine ⟨x, ?_⟩
  rw [sepL_append]
  exact sepL_emp a d s
theorem boxH_shut {α : Type} {parts : α → List HP} (x : α) {l : List HP} {R : HP} {h : Hl} (s : sepL (parts x ++ l) R h) : sepL (boxH parts :: l) R h := by
  rw [sepL_append] at s
  obtain ⟨h1, h2, d, rfl, a, s⟩ := emp_sepL s
  exact ⟨h1, h2, d, rfl, ⟨x, a⟩, s⟩
theorem FnR.unbox {α : Type} {parts : α → List HP} {P : Program} {R : HP} {f : FuncId} {args : List Value} {l : List HP} {post : Value → List HP → Prop} (h : ∀ x, FnR P R f args (parts x ++ l) post) : FnR P R f args (boxH parts :: l) post := by
  rintro w ⟨g, g1, s⟩
  obtain ⟨x, s⟩ := boxH_open s
  exact h x w ⟨g, g1, s⟩
theorem Sat.unbox {α : Type} {parts : α → List HP} {w : World} (s : Sat (boxH parts) w) : ∃ x, Sat (sepL (parts x) emp) w := by
  obtain ⟨h, hs, x, s⟩ := s
  exact ⟨x, h, hs, s⟩
theorem OpAt.append1 {G : Gl} {o : Oper} {st : St} {K : St → Prop} {t e : TypeId} {s x : Operand} {i : TypeInfo} {z : Value} (v : Value) (n size bytes : Nat) (xs news : List Value) (A : Option Addr) (m c : Nat) (rest : List HP)
    (ho : o.op = .call { callee := .builtin .append, args := #[s, x], argTypes := #[t, t] }) (hp : ∀ h, sepL st.h G.R h → sepL (rowH v n e size xs :: rest) G.R h) (hs : evR st s = v) (hx : evR st x = .slice A m c) (hr : allR st o.op.operands.toList = true)
    (hu : G.P.underlying t = some (.slice e)) (hi : G.P.info? e = some i) (hz : i.zero = some z) (hsize : i.size = size) (hby : i.bytes = bytes) (hzs : z.cells.size = size) (hsz : 0 < size)
    (src : ∀ w, Sat (sepL rest G.R) w → Reads w w.heap.size size A m news) (h1 : ∀ u ∈ news, u.oneCell' = true) (h63 : n + m ≤ maxLen) (hbytes : (n + m) * bytes ≤ 140737488355328)
    (hpos : 0 < n + m) (k : ∀ g c', putK G { st with h := rowH (.slice (some ⟨g, 0, none⟩) (n + m) c') (n + m) e size (xs ++ news) :: rest } o.dst (.v (.slice (some ⟨g, 0, none⟩) (n + m) c')) none K) : OpAt G o st K := by
  refine OpAt.sem (pre := [rowH v n e size xs]) (post := fun v' hs => ∃ g c', v' = .slice (some ⟨g, 0, none⟩) (n + m) c' ∧ hs = [rowH (.slice (some ⟨g, 0, none⟩) (n + m) c') (n + m) e size (xs ++ news)]) rest hp (by rw [ho]; rfl) hr ?_ ?_
  · rintro R' hR' w ⟨h, hsub, h1', h2, d, rfl, hrow, hrest⟩
    have hown := rowH_own hrow hsub.left
    have hrd := src w (hR' w ⟨h2, hsub.right d, hrest⟩)
    obtain ⟨v', w', hrun, hown', hB, hg, hat⟩ := run_append_appl (P := G.P) w 0 t o.type e i z size bytes hu hi hz hsize hby hzs hsz v n xs (.inl hown) w.heap.size A m c news hrd h1 (.inr hown) h63 hbytes (Nat.zero_le _)
    obtain ⟨A', c', rfl, _⟩ := own_shape' hown'
    obtain ⟨g0, rfl⟩ : ∃ g0, A' = some ⟨g0, 0, none⟩ := by
      rcases hown'.2 with ⟨h1, h2⟩ | ⟨g0, cap, cur, h1, _⟩
      · omega
      · injection h1 with h1; exact ⟨g0, h1⟩
    obtain ⟨h1'', r1, s1, dom⟩ := own_rowH hown'
    have s2 : Sub h2 w' := fun j ob e' => by
      have hj := hsub.right d j ob e'
      have hlt := (Array.getElem?_eq_some_iff.1 hj).1
      rw [hg.block j hlt ?_]
      · exact hj
      · intro c0
        rcases d j with c1 | c1
        · exact rowH_ne hrow c0.symm c1
        · rw [c1] at e'; cases e'
    refine ⟨_, _, w', ?_, ⟨g0, c', rfl, rfl⟩, ⟨_, s1.un s2, h1'', h2, fun j => ?_, rfl, r1, hrest⟩, ⟨hg.os, hg.tape, hg.output, hg.size⟩⟩
    · have ha : (#[s, x] : Array Operand).map (evR st) = #[v, .slice A m c] := by simp [hs, hx]
      simp only [execOp, ho, resolve, invoke, builtin, Sem.run_bind, Sem.run_pure, Result.andThen_ok, ha, hrun]
    · by_cases c0 : h1'' j = none
      · exact .inl c0
      · right
        have hj := (dom j c0).1
        rcases hat with hat | ⟨g, hat, hge⟩
        · rw [hat] at hj
          rcases d j with c1 | c1
          · exact absurd c1 (rowH_ne hrow hj)
          · exact c1
        · rw [hat] at hj
          injection hj with hj
          subst hj
          exact (hsub.right d).none hge
  · rintro v' hs' ⟨A', c', rfl, rfl⟩
    exact k A' c'

/-- a weaker word for what is left -/
theorem FnR.post {P : Program} {R : HP} {f : FuncId} {args : List Value} {pre : List HP} {p q : Value → List HP → Prop} (h : FnR P R f args pre p) (hq : ∀ v hs, p v hs → ∃ hs', q v hs' ∧ ∀ h, sepL hs R h → sepL hs' R h) : FnR P R f args pre q := by
  intro w s
  refine (h w s).mono ?_
  rintro e w' ⟨v, hs, rfl, hv, ⟨g, g1, s'⟩, hw⟩
  obtain ⟨hs', h1, h2⟩ := hq v hs hv
  exact ⟨v, hs', rfl, h1, ⟨g, g1, h2 g s'⟩, hw⟩
theorem eq_struct2 {P : Program} {t : TypeId} {f0 f1 : Field} {ki : IntKind} (h0 : P.underlying t = some (.struct (P.fieldsOf t))) (hst : P.stoodInHeld t = false) (hf : (P.fieldsOf t).toList = [f0, f1]) (n0 : f0.name ≠ "_") (n1 : f1.name ≠ "_") (o0 : f0.offset = 0) (o1 : f1.offset = 1)
    (u0 : P.underlying f0.type = some (.int ki)) (u1 : P.underlying f1.type = some (.int ki)) (k : IntKind) (a b c d : Int) (w : World) : (Op.equalIn 10000 t (.agg #[.int k a, .int k b]) (.agg #[.int k c, .int k d])).run P w = .ok (a == c && b == d) w := by
  rw [run_equalIn_struct w 9999 t _ _ h0 hst, hf]
  have p0 : ∀ x y : Value, (part f0.type #[x, y] f0.offset).run P w = .ok x w := fun x y => run_part_plain w (by simp [Program.plainKey, u0]) (by rw [o0]; rfl)
  have p1 : ∀ x y : Value, (part f1.type #[x, y] f1.offset).run P w = .ok y w := fun x y => run_part_plain w (by simp [Program.plainKey, u1]) (by rw [o1]; rfl)
  have e0 := fun x y : Int => run_equalIn_int w 9998 f0.type k ki x y u0
  have e1 := fun x y : Int => run_equalIn_int w 9998 f1.type k ki x y u1
  simp only [Op.eqFields, n0, n1, ne_eq, not_false_eq_true, if_true, Sem.run_bind, p0, p1, e0, e1, Result.andThen_ok, Sem.run_ite, Sem.run_pure]
  cases (a == c) <;> cases (b == d) <;> simp
/-- structs compared -/
theorem OpAt.aggNe {G : Gl} {o : Oper} {st : St} {K : St → Prop} {t ty : TypeId} {x y : Operand} {xs ys : Array Value} {r : Bool} (ho : o.op = .binOp .neq t x y ty) (hx : evR st x = .agg xs) (hy : evR st y = .agg ys) (hr : allR st o.op.operands.toList = true) (hg : G.P.eqGuardType G.P.depth t = false)
    (heq : ∀ w, (Op.equalIn 10000 t (.agg xs) (.agg ys)).run G.P w = .ok r w) (k : putK G st o.dst (.v (.bool (!r))) none K) : OpAt G o st K := by
  refine OpAt.val (.bool (!r)) (by rw [ho]; rfl) hr (fun w _ => ?_) k
  simp [execOp, ho, hx, hy, run_eqGuard_agg _ _ _ _ _ _ _ hg, binOp, Op.equal, Op.maxDepth, heq]
theorem OpAt.aggEq {G : Gl} {o : Oper} {st : St} {K : St → Prop} {t ty : TypeId} {x y : Operand} {xs ys : Array Value} {r : Bool} (ho : o.op = .binOp .eql t x y ty) (hx : evR st x = .agg xs) (hy : evR st y = .agg ys) (hr : allR st o.op.operands.toList = true) (hg : G.P.eqGuardType G.P.depth t = false)
    (heq : ∀ w, (Op.equalIn 10000 t (.agg xs) (.agg ys)).run G.P w = .ok r w) (k : putK G st o.dst (.v (.bool r)) none K) : OpAt G o st K := by
  refine OpAt.val (.bool r) (by rw [ho]; rfl) hr (fun w _ => ?_) k
  simp [execOp, ho, hx, hy, run_eqGuard_agg _ _ _ _ _ _ _ hg, binOp, Op.equal, Op.maxDepth, heq]
end Sy
end Go.Proofs.YteplckkoiffnnaaGreatDoor
