/-
  Closed runs: regions, code, calls: the words.
-/
import Derived.Test.YtonbjlkmcikbgaaGreatDoorCxF
namespace Go.Proofs.YtonbjlkmcikbgaaGreatDoor
open Go.RowKit
namespace Cx
set_option linter.unusedVariables false
set_option linter.unusedSimpArgs false
noncomputable section

/-! what waits for what: numbers whose bits are the operations ahead -/
def preds (o : Oper) : List Nat := (o.after.toList.filter (Region.binds .any)).map (·.on)
def maskOf (ms : List Nat) : List Nat → Option Nat
  | [] => some 0
  | p :: l => bd ms[p]? fun a => bd (maskOf ms l) fun r => some (Nat.lor a (Nat.lor (2 ^ p) r))
def masks : List Oper → List Nat → Option (List Nat)
  | [], ms => some ms
  | o :: l, ms => bd (maskOf ms (preds o)) fun m => masks l (ms ++ [m])
inductive Kd | skip | T | L | N | H
def kindOp (o : Op) : Kd := match o with
  | .load _ _ => .L
  | .alloc _ => .N
  | .box _ _ => .N
  | .buildSlice _ _ _ => .N
  | .makeSlice _ _ _ => .N
  | .store _ _ _ => .H
  | .call k => match k.callee with
    | .builtin b => match b with
      | .append => .H
      | .copy => .H
      | _ => .T
    | _ => .H
  | _ => .T
def isH (o : Oper) : Bool := match kindOp o.op with
  | .H => true
  | _ => false
/-- the slots that an operation looks at -/
def slots : List Operand → List Nat
  | [] => []
  | .tmp t :: l => t :: slots l
  | _ :: l => slots l
def reads (all : List Oper) (o : Oper) : List Nat := match o.guard with
  | none => slots o.op.operands.toList
  | some (j, _) => match all[j]? with
    | some oj => match oj.dst with
      | some d => d :: slots o.op.operands.toList
      | none => slots o.op.operands.toList
    | none => slots o.op.operands.toList
def hasN (t : Nat) : List Nat → Bool
  | [] => false
  | s :: l => match Nat.beq s t with
    | true => true
    | false => hasN t l
def hasO (d : Option Nat) (l : List Nat) : Bool := match d with
  | some t => hasN t l
  | none => false
def sameO (d e : Option Nat) : Bool := match d, e with
  | some t, some s => Nat.beq t s
  | _, _ => false
/-- an operation against one that stands ahead of it -/
def pairOk (all : List Oper) (m : Nat) (o : Oper) (j : Nat) (oj : Oper) : Bool :=
  match Nat.testBit m j with
  | true => !(sameO oj.dst o.dst)
  | false => !(sameO oj.dst o.dst) && (!(hasO oj.dst (reads all o)) && (!(hasO o.dst (reads all oj)) && !(isH o && isH oj)))
def pairsOk (all : List Oper) (m : Nat) (o : Oper) : Nat → List Oper → Bool
  | _, [] => true
  | j, oj :: l => match pairOk all m o j oj with
    | true => pairsOk all m o (j + 1) l
    | false => false
def statFrom (all M : List Oper) (ms : List Nat) : Nat → List Oper → Bool
  | _, [] => true
  | i, o :: l => match ms[i]? with
    | some m => match pairsOk all m o 0 (all.take i) with
      | true => statFrom all M ms (i + 1) l
      | false => false
    | none => false
def noSel (o : Oper) : Bool := notSel o.op
def stat (all : List Oper) (ms : List Nat) : Bool := statFrom all all ms 0 all

/-! one region -/
structure Rc where
  kd : Kd
  t : Tm
  v : Value
  c : Nat
  c' : Nat
  /-- the heap ahead of it, without the new objects that nobody has asked for -/
  s : Hp
  /-- the heap that it runs on -/
  h : Hp
  h' : Hp
abbrev Pend := List (Nat × Nat × Ob)
/-- the new objects that an operation waits for are laid -/
def absorb {α : Type} (m : Nat) : Pend → Hp → (Hp → Pend → Option α) → Option α
  | [], h, K => K h []
  | (i, c, ob) :: l, h, K => match Nat.testBit m i with
    | true => gd (Nat.blt c cap0) (absorb m l h fun h r => Tr.setK (some ob) 24 h c fun h => K h r)
    | false => absorb m l h fun h r => K h ((i, c, ob) :: r)
def layAll {α : Type} : Pend → Hp → (Hp → Option α) → Option α
  | [], h, K => K h
  | (i, c, ob) :: l, h, K => gd (Nat.blt c cap0) (layAll l h fun h => Tr.setK (some ob) 24 h c K)
def ldV (P : Program) (t : Tm) (h : Hp) (o : Oper) : Option Value := match o.op with
  | .load e x => bd (ptrV (evl t x)) fun a => bd (h.get a.block) fun ob => partV P e ob.cs a.off
  | _ => none
def rec1 (P : Program) (call : Callee) (all : List Oper) (m i : Nat) (o : Oper) (t : Tm) (h : Hp) (c : Nat) (pend : Pend) : Option (Rc × Pend) :=
  bd (want all t o) fun w => match w with
    | false => some (⟨.skip, t, undef, c, c, h, h, h⟩, pend)
    | true => match kindOp o.op with
      | .T => bd (opV P t .lf c o) fun r => match r with
        | .val v .lf c2 => gd (Nat.beq c2 c) (some (⟨.T, t, v, c, c, h, h, h⟩, pend))
        | _ => none
      | .L => bd (ldV P t h o) fun v => some (⟨.L, t, v, c, c, h, h, h⟩, pend)
      | .N => bd (opV P t .lf c o) fun r => match r with
        | .val v h1 c2 => bd (h1.get c) fun ob => gd (Nat.beq c2 (c + 1)) (some (⟨.N, t, v, c, c + 1, h, h, h1⟩, (i, c, ob) :: pend))
        | _ => none
      | .H => absorb m pend h fun hp pend => bd (opV P t hp c o) fun r => match r with
        | .val v h2 c2 => some (⟨.H, t, v, c, c2, h, hp, h2⟩, pend)
        | .ent f args => bd (call f args hp c) fun q => some (⟨.H, t, q.1, c, q.2.2, h, hp, q.2.1⟩, pend)
      | .skip => none
def setT (N : Nat) (t : Tm) (d : Option Nat) (v : Value) : Option Tm := match d with
  | some i => gd (Nat.blt i N) (Tr.setK (some v) 24 t i some)
  | none => some t
def isHk : Kd → Bool
  | .H => true
  | _ => false
/-- the heap behind an operation -/
def Rc.next (r : Rc) : Hp := Rc.rec (motive := fun _ => Hp) (fun kd _ _ _ _ s _ h' => Bool.rec (motive := fun _ => Hp) s h' (isHk kd)) r
theorem Rc.next_eq (r : Rc) : r.next = match isHk r.kd with
    | true => r.h'
    | false => r.s := by
  cases r with
  | mk kd t v c c' s h h' =>
    show Bool.rec (motive := fun _ => Hp) s h' (isHk kd) = _
    cases isHk kd <;> rfl
structure Fin where
  t : Tm
  h : Hp
  c : Nat
  pend : Pend
def recs (P : Program) (call : Callee) (N : Nat) (all : List Oper) (ms : List Nat) : Nat → List Oper → Tm → Hp → Nat → Pend → Option (List Rc × Fin)
  | _, [], t, h, c, pend => some ([], ⟨t, h, c, pend⟩)
  | i, o :: l, t, h, c, pend => bd ms[i]? fun m => bd (rec1 P call all m i o t h c pend) fun q => Prod.rec (motive := fun _ => Option (List Rc × Fin)) (fun rc pend => bd (setT N t o.dst rc.v) fun t => bd (recs P call N all ms (i + 1) l t rc.next rc.c' pend) fun r => Prod.rec (motive := fun _ => Option (List Rc × Fin)) (fun rs f => some (rc :: rs, f)) r) q

mutual
def veq : Value → Value → Bool
  | .bool a, .bool b => a == b
  | .int k a, .int j b => decide (k = j) && intEq a b
  | .string a, .string b => bytesEq a.data.toList b.data.toList
  | .pointer none, .pointer none => true
  | .pointer (some a), .pointer (some b) => addrEq a b
  | .slice none n c, .slice none m d => Nat.beq n m && Nat.beq c d
  | .slice (some a) n c, .slice (some b) m d => addrEq a b && (Nat.beq n m && Nat.beq c d)
  | .nilFunc, .nilFunc => true
  | .nilIface, .nilIface => true
  | .iface t a, .iface u b => Nat.beq t u && veq a b
  | .agg ⟨a⟩, .agg ⟨b⟩ => veqs a b
  | .tuple ⟨a⟩, .tuple ⟨b⟩ => veqs a b
  | .func (.func f) ⟨[]⟩ ⟨a⟩, .func (.func g) ⟨[]⟩ ⟨b⟩ => Nat.beq f g && veqs a b
  | _, _ => false
def veqs : List Value → List Value → Bool
  | [], [] => true
  | a :: l, b :: m => match veq a b with
    | true => veqs l m
    | false => false
  | _, _ => false
def intEq : Int → Int → Bool
  | .ofNat a, .ofNat b => Nat.beq a b
  | .negSucc a, .negSucc b => Nat.beq a b
  | _, _ => false
def addrEq : Addr → Addr → Bool
  | ⟨a, x, none⟩, ⟨b, y, none⟩ => Nat.beq a b && Nat.beq x y
  | _, _ => false
def bytesEq : List UInt8 → List UInt8 → Bool
  | [], [] => true
  | a :: l, b :: m => Nat.beq a.toNat b.toNat && bytesEq l m
  | _, _ => false
end
/-- loads, and what turns memory and neither waits for them nor is waited for by them -/
def floatsFrom (ms : List Nat) (m i : Nat) (p : Nat) : List Oper → List (Nat × Nat)
  | [] => []
  | o :: l => match isH o with
    | false => floatsFrom ms m i (p + 1) l
    | true => match Nat.testBit m p || (match ms[p]? with
        | some q => Nat.testBit q i
        | none => false) with
      | true => floatsFrom ms m i (p + 1) l
      | false => (i, p) :: floatsFrom ms m i (p + 1) l
def isL (o : Oper) : Bool := match kindOp o.op with
  | .L => true
  | _ => false
def floats (all : List Oper) (ms : List Nat) : Nat → List Oper → List (Nat × Nat)
  | _, [] => []
  | i, o :: l => match isL o with
    | false => floats all ms (i + 1) l
    | true => match ms[i]? with
      | some m => floatsFrom ms m i 0 all ++ floats all ms (i + 1) l
      | none => floats all ms (i + 1) l
def isLk : Kd → Bool
  | .L => true
  | _ => false
def float1 (P : Program) (all : List Oper) (rs : List Rc) (i p : Nat) : Bool := match all[i]?, rs[i]?, rs[p]? with
  | some o, some r, some q => match isLk r.kd with
    | false => true
    | true => match isHk q.kd with
      | false => true
      | true => match ldV P r.t (match Nat.blt p i with
          | true => q.s
          | false => q.h') o with
        | some v => veq v r.v
        | none => false
  | _, _, _ => false
def floatsOk (P : Program) (all : List Oper) (rs : List Rc) : List (Nat × Nat) → Bool
  | [] => true
  | (i, p) :: l => match float1 P all rs i p with
    | true => floatsOk P all rs l
    | false => false
def region (P : Program) (call : Callee) (N : Nat) (ops : List Oper) (draw : Bool) (s : S) : Option S := match draw with
  | false => steps P call N ops ops s
  | true => bd (masks ops []) fun ms => gd (stat ops ms) (bd (recs P call N ops ms 0 ops s.t s.h s.c []) fun q => gd (floatsOk P ops q.1 (floats ops ms 0 ops)) (layAll q.2.pend q.2.h fun h => some ⟨q.2.t, h, q.2.c⟩))
abbrev Cd := Program → Callee → Nat → Nat → S → Option (Ex × S)
def cSkip (P : Program) (call : Callee) (fuel N : Nat) (s : S) : Option (Ex × S) := some (.normal, s)
def cReg (_ : Nat) (ops : Array Oper) (draw : Bool) (P : Program) (call : Callee) (fuel N : Nat) (s : S) : Option (Ex × S) := bd (region P call N ops.toList draw s) fun s => some (.normal, s)
def cSeq (_ _ : Code) (a b : Cd) (P : Program) (call : Callee) (fuel N : Nat) (s : S) : Option (Ex × S) := bd (a P call fuel N s) fun r => Prod.rec (motive := fun _ => Option (Ex × S)) (fun e s => Ex.rec (motive := fun _ => Option (Ex × S)) (b P call fuel N s) (some (.ret, s)) (fun j => some (.exit j, s)) e) r
def cCond (x : Operand) (_ _ : Code) (a b : Cd) (P : Program) (call : Callee) (fuel N : Nat) (s : S) : Option (Ex × S) := bd (boolV (evl s.t x)) fun q => Bool.rec (motive := fun _ => Option (Ex × S)) (b P call fuel N s) (a P call fuel N s) q
def cBlock (id : Nat) (_ : Code) (a : Cd) (P : Program) (call : Callee) (fuel N : Nat) (s : S) : Option (Ex × S) := bd (a P call fuel N s) fun r => Prod.rec (motive := fun _ => Option (Ex × S)) (fun e s => Ex.rec (motive := fun _ => Option (Ex × S)) (some (.normal, s)) (some (.ret, s)) (fun j => Bool.rec (motive := fun _ => Option (Ex × S)) (some (.exit j, s)) (some (.normal, s)) (Nat.beq j id)) e) r
def cLoop (_ : Code) (a : Cd) (P : Program) (call : Callee) (fuel N : Nat) (s : S) : Option (Ex × S) := iter (a P call fuel N) fuel s
def cExit (j : Nat) (P : Program) (call : Callee) (fuel N : Nat) (s : S) : Option (Ex × S) := some (.exit j, s)
def cRet (P : Program) (call : Callee) (fuel N : Nat) (s : S) : Option (Ex × S) := some (.ret, s)
def cNo (P : Program) (call : Callee) (fuel N : Nat) (s : S) : Option (Ex × S) := none
def codeD (c : Code) : Cd := Code.rec (motive := fun _ => Cd) cSkip cReg cSeq cCond cBlock cLoop (fun _ _ _ _ _ _ => cNo) cExit (fun _ _ => cNo) (fun _ => cNo) (fun _ => cNo) cRet (fun _ => cNo) c
def code (P : Program) (call : Callee) (fuel N : Nat) (c : Code) (s : S) : Option (Ex × S) := codeD c P call fuel N s
theorem code_seq (P : Program) (call : Callee) (fuel N : Nat) (a b : Code) (s : S) : code P call fuel N (.seq a b) s = bd (code P call fuel N a s) fun r => Ex.rec (motive := fun _ => Option (Ex × S)) (code P call fuel N b r.2) (some (.ret, r.2)) (fun j => some (.exit j, r.2)) r.1 := rfl
theorem code_cond (P : Program) (call : Callee) (fuel N : Nat) (x : Operand) (a b : Code) (s : S) : code P call fuel N (.cond x a b) s = bd (boolV (evl s.t x)) fun q => Bool.rec (motive := fun _ => Option (Ex × S)) (code P call fuel N b s) (code P call fuel N a s) q := rfl
theorem code_block (P : Program) (call : Callee) (fuel N id : Nat) (a : Code) (s : S) : code P call fuel N (.block id a) s = bd (code P call fuel N a s) fun r => Ex.rec (motive := fun _ => Option (Ex × S)) (some (.normal, r.2)) (some (.ret, r.2)) (fun j => Bool.rec (motive := fun _ => Option (Ex × S)) (some (.exit j, r.2)) (some (.normal, r.2)) (Nat.beq j id)) r.1 := rfl
theorem code_loop (P : Program) (call : Callee) (fuel N : Nat) (a : Code) (s : S) : code P call fuel N (.loop a) s = iter (code P call fuel N a) fuel s := rfl
theorem code_reg (P : Program) (call : Callee) (fuel N id : Nat) (ops : Array Oper) (draw : Bool) (s : S) : code P call fuel N (.region id ops draw) s = bd (region P call N ops.toList draw s) fun s => some (.normal, s) := rfl
theorem iter_s (f : S → Option (Ex × S)) (n : Nat) (s : S) : iter f (n + 1) s = bd (f s) fun r => Ex.rec (motive := fun _ => Option (Ex × S)) (iter f n r.2) (some (.ret, r.2)) (fun j => some (.exit j, r.2)) r.1 := rfl
def call (P : Program) (fuel : Nat) : Nat → Callee
  | 0, _, _, _, _ => none
  | n + 1, f, args, h, c => bd P.funcs[f]? fun fn => bd fn.body fun b => gd (Nat.ble args.length fn.ntmps && Nat.ble fn.ntmps cap0) (bd (startT args 0 .lf) fun t =>
    bd (code P (call P fuel n) fuel fn.ntmps b ⟨t, h, c⟩) fun r => match r.1 with
      | .exit _ => none
      | _ => bd (resV P r.2 fn.results.toList) fun l => some (mkRes l, r.2.h, r.2.c))
end
end Cx
end Go.Proofs.YtonbjlkmcikbgaaGreatDoor
