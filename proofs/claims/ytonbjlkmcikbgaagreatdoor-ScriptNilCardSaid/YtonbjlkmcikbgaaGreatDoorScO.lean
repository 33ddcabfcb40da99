/-
  Closed runs in the scripts' program: the functions that are told: digits, ParseInt of one digit, Split.
-/
import Derived.Test.YtonbjlkmcikbgaaGreatDoorCxR
import Derived.Test.YtonbjlkmcikbgaaGreatDoorTintShelf
import Derived.Test.YtonbjlkmcikbgaaGreatDoorNumLib
namespace Go.Proofs.YtonbjlkmcikbgaaGreatDoor
open Go.RowKit
namespace Cx
set_option linter.unusedVariables false
set_option linter.unusedSimpArgs false
set_option maxRecDepth 100000
set_option maxHeartbeats 4000000

noncomputable def natI (n : Nat) : Value := Nat.rec (motive := fun _ => Value) (.int .i64 (.ofNat 0)) (fun m _ => .int .i64 (.ofNat (Nat.succ m))) n
theorem natI_eq (n : Nat) : natI n = .int .i64 (n : Int) := by cases n <;> rfl
noncomputable def valDig (args : List Value) : Option Value := match args with
  | [.string s] => gd (Nat.ble s.data.toList.length 1000) (some (natI (nd s.data.toList)))
  | _ => none
theorem pure_calls {f : FuncId} {args : List Value} {v : Value} {w : World} (h : Sy.PureR Tryz.prog (Sy.was w) f args v) : Calls Tryz.prog f args.toArray w fun e w' => e = .returned v ∧ Below w.heap.size w w' := h.below
theorem dig_ok : OneOK Tryz.prog 164 (orVal valDig) := orVal_ok fun args v hv w => by
  unfold valDig at hv
  split at hv
  · rename_i s
    rw [gd_some] at hv
    obtain ⟨h1, h2⟩ := hv
    injection h2 with h2
    have h1 := ble_of h1
    rw [natI_eq] at h2
    subst h2
    have := pure_calls (w := w) (sDigits (R := Sy.was w) s.data.toList (by omega))
    rwa [Sy.bs_data] at this
  · cases hv
noncomputable def valInt (args : List Value) : Option Value := match args with
  | [.string s, .int .i64 (.ofNat a), .int .i64 (.ofNat b)] => gd (Nat.beq a 10 && Nat.beq b 64) (match s.data.toList with
    | [x] => gd (isD x) (some (.tuple ⟨[natI (Nat.sub x.toNat 48), .nilIface]⟩))
    | [x, y] => gd (isD x && isD y) (some (.tuple ⟨[natI (Nat.add (Nat.mul 10 (Nat.sub x.toNat 48)) (Nat.sub y.toNat 48)), .nilIface]⟩))
    | _ => none)
  | _ => none
theorem one_digit : ∀ n : _root_.Fin 10, Lib.parseIntB 64 [UInt8.ofNat (48 + n.val)] = .ok ((n.val : Nat) : Int) := by decide
theorem two_digits : ∀ (m n : _root_.Fin 10), Lib.parseIntB 64 [UInt8.ofNat (48 + m.val), UInt8.ofNat (48 + n.val)] = .ok ((10 * m.val + n.val : Nat) : Int) := by decide
theorem int_ok : OneOK Tryz.prog 165 (orVal valInt) := orVal_ok fun args v hv w => by
  unfold valInt at hv
  split at hv
  · rename_i s a b
    rw [gd_some, Bool.and_eq_true] at hv
    obtain ⟨⟨ha, hb⟩, hv⟩ := hv
    have ha := beq_of ha
    have hb := beq_of hb
    subst ha hb
    split at hv
    · rename_i x hx
      rw [gd_some] at hv
      obtain ⟨hd, hv⟩ := hv
      injection hv with hv
      rw [natI_eq] at hv
      subst hv
      have hd : 48 ≤ x.toNat ∧ x.toNat ≤ 57 := by simpa [isD] using hd
      have key := one_digit ⟨x.toNat - 48, by omega⟩
      have hxx : UInt8.ofNat (48 + (x.toNat - 48)) = x := by
        rw [Nat.add_sub_of_le hd.1]
        exact UInt8.ofNat_toNat
      simp only [hxx] at key
      have := pure_calls (w := w) (sParse (R := Sy.was w) [x] (by simp) key)
      rw [← hx, Sy.bs_data] at this
      exact this
    · rename_i x y hx
      rw [gd_some, Bool.and_eq_true] at hv
      obtain ⟨⟨hd, hd2⟩, hv⟩ := hv
      injection hv with hv
      rw [natI_eq] at hv
      subst hv
      have hd : 48 ≤ x.toNat ∧ x.toNat ≤ 57 := by simpa [isD] using hd
      have hd2 : 48 ≤ y.toNat ∧ y.toNat ≤ 57 := by simpa [isD] using hd2
      have key := two_digits ⟨x.toNat - 48, by omega⟩ ⟨y.toNat - 48, by omega⟩
      have hxx : UInt8.ofNat (48 + (x.toNat - 48)) = x := by
        rw [Nat.add_sub_of_le hd.1]
        exact UInt8.ofNat_toNat
      have hyy : UInt8.ofNat (48 + (y.toNat - 48)) = y := by
        rw [Nat.add_sub_of_le hd2.1]
        exact UInt8.ofNat_toNat
      simp only [hxx, hyy] at key
      have := pure_calls (w := w) (sParse (R := Sy.was w) [x, y] (by simp) key)
      rw [← hx, Sy.bs_data] at this
      exact this
    · cases hv
  · cases hv
/-! Split -/
structure Cut where
  s : List UInt8
  b : UInt8
  ws : List (List UInt8)
def cuts : List Cut := [
  ⟨[99, 114, 101, 97, 116, 101, 32, 50, 32, 49], 32, [[99, 114, 101, 97, 116, 101], [50], [49]]⟩,
  ⟨[112, 97, 115, 116, 101, 32, 48, 32, 48, 32, 49, 32, 48, 32, 53, 44, 55], 32, [[112, 97, 115, 116, 101], [48], [48], [49], [48], [53, 44, 55]]⟩,
  ⟨[115, 117, 109, 32, 48, 32, 48, 32, 49, 32, 48], 32, [[115, 117, 109], [48], [48], [49], [48]]⟩,
  ⟨[53, 44, 55], 44, [[53], [55]]⟩]
def findCut (s : List UInt8) (b : UInt8) : List Cut → Option (List (List UInt8))
  | [] => none
  | c :: l => match bytesEq c.s s && Nat.beq c.b.toNat b.toNat with
    | true => some c.ws
    | false => findCut s b l
def cutOk (c : Cut) : Prop := Lib.splitK [c.b] 0 (c.s.count c.b) c.s = c.ws ∧ c.ws.length = c.s.count c.b + 1 ∧ c.s.length ≤ 100
theorem cuts_ok : ∀ c ∈ cuts, cutOk c := by unfold cutOk; decide +kernel
theorem findCut_ok {s : List UInt8} {b : UInt8} {ws : List (List UInt8)} : ∀ {l : List Cut}, (∀ c ∈ l, cutOk c) → findCut s b l = some ws → cutOk ⟨s, b, ws⟩
  | [], _, h => by cases h
  | c :: l, hc, h => by
    unfold findCut at h
    split at h
    · rename_i hb
      rw [Bool.and_eq_true] at hb
      injection h with h
      subst h
      have h1 := bytesEq_eq hb.1
      have h2 := UInt8.toNat_inj.1 (beq_of hb.2)
      have := hc c (List.mem_cons_self)
      obtain ⟨cs, cb, cw⟩ := c
      simp only at h1 h2
      subst h1 h2
      exact this
    · exact findCut_ok (fun c hm => hc c (List.mem_cons_of_mem _ hm)) h
noncomputable def strVs : List (List UInt8) → List Value
  | [] => []
  | w :: l => .string ⟨⟨w⟩⟩ :: strVs l
theorem strVs_eq : ∀ l, strVs l = l.map fun w => Value.string (Sy.bs w)
  | [] => rfl
  | w :: l => by rw [strVs, strVs_eq l]; rfl
theorem flats_strVs : ∀ l, flats (strVs l) = true
  | [] => rfl
  | w :: l => by simp [strVs, flats, flat, flats_strVs l]
noncomputable def numCell (o : Option Ob) : Bool := match o with
  | some ⟨_, _, [.int .i64 _]⟩ => true
  | _ => false
noncomputable def orSplit (args : List Value) (h : Hp) (c : Nat) : Option (Value × Hp × Nat) := match args with
  | [.string s, .string p] => match p.data.toList with
    | [b] => bd (findCut s.data.toList b cuts) fun ws => gd (numCell (h.get (gbase + 2))) (forceL (strVs ws) fun vs => bd (newV h c ⟨9, 0, vs⟩) fun r => some (.slice (some ⟨c, 0, none⟩) vs.length vs.length, r.1, r.2))
    | _ => none
  | _ => none
theorem split_eq (b : UInt8) (s : List UInt8) (k : Nat) : Lib.splitB (Sy.bs [b]) 0 k (Sy.bs s) = (Lib.splitK [b] 0 k s).map Sy.bs := by
  have h := Lib.splitB_data (Sy.bs [b]) 0 k (Sy.bs s)
  rw [Sy.bs_toList, Sy.bs_toList] at h
  rw [← h, List.map_map]
  have e : (Sy.bs ∘ fun x : ByteArray => x.data.toList) = id := by
    funext x
    exact Sy.bs_data x
  rw [e, List.map_id]
theorem split_ok : OneOK Tryz.prog 33 orSplit := fun args h c v h' c' e => by
  unfold orSplit at e
  split at e
  case h_2 => cases e
  rename_i s p
  split at e
  case h_2 => cases e
  rename_i b hp
  simp only [bd_some, gd_some, forceL_eq, Option.some.injEq, Prod.mk.injEq] at e
  obtain ⟨ws, hws, hnum, r, hr, rfl, rfl, rfl⟩ := e
  obtain ⟨hc, rfl⟩ := newV_some hr
  obtain ⟨hk, hlen, hsl⟩ := findCut_ok cuts_ok hws
  simp only at hk hlen hsl
  refine ⟨by simp only; omega, fun ρ w us g d l f => ?_⟩
  have := d.flats_eq (by rfl)
  subst this
  obtain ⟨m, hm⟩ : ∃ m, w.cell? ⟨2, 0, none⟩ = some (.int .i64 m) := by
    unfold numCell at hnum
    split at hnum
    · rename_i ty k m ho
      obtain ⟨x, us, f1, f2, f3, f4, f5, f6⟩ := l.ob _ _ ho
      obtain ⟨y, g1, g2⟩ := g 2
      rw [g1] at f1
      have f1 := Option.some.inj f1
      rw [← f1, g2] at f4
      have f6 := f6.flats_eq (by rfl)
      refine ⟨m, ?_⟩
      rw [cell_of_row w _ 0 us ty (0, 0) f4]
      have h0 : (us.toList.take [Value.int .i64 m].length)[0]? = some (.int .i64 m) := by rw [f6]; rfl
      rw [List.getElem?_take_of_lt (by simp)] at h0
      simpa using h0
    · cases hnum
  have hs : s = Sy.bs s.data.toList := (Sy.bs_data _).symm
  have hpp : p = Sy.bs [b] := by rw [← hp, Sy.bs_data]
  generalize hsl2 : s.data.toList = sl at *
  subst hs hpp
  have cc := Any.strings_Split lays146 (by kernel_rfl) (Sy.bs sl) (Sy.bs [b]) m w (by rw [Sy.bs_size]; omega) hm (by rw [Sy.bs_size]; exact Nat.le_refl _)
  have hcn : Lib.countB (Sy.bs sl) (Sy.bs [b]) = sl.count b := by
    show Lib.count (Sy.bs sl).data.toList (Sy.bs [b]).data.toList = _
    rw [Sy.bs_toList, Sy.bs_toList]
    exact Lib.count_one b sl
  rw [hcn, split_eq, hk, ← hlen] at cc
  have hvs : (ws.map Sy.bs).map Value.string = strVs ws := by rw [strVs_eq, List.map_map]; rfl
  rw [hvs] at cc
  have hl : (strVs ws).length = ws.length := by rw [strVs_eq]; simp
  refine cc.mono ?_
  rintro e w' ⟨rfl, rfl⟩
  have rn := Ran.new l hc f ⟨9, 0, strVs ws⟩ (strVs ws).toArray (by simp) (by simpa using DenL.flat (flats_strVs ws))
  refine ⟨_, _, rfl, ?_, rn⟩
  rw [hl]
  exact .slc (x := ⟨w.heap.size, (strVs ws).toArray.size, 0⟩) (by simp [upd]) (by unfold unk; have : sl.count b ≤ sl.length := List.count_le_length; omega)
end Cx
end Go.Proofs.YtonbjlkmcikbgaaGreatDoor
