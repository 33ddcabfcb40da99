/-
  Closed runs: the operations, the last: append, copy, cut, assert, calls; all of them.
-/
import Derived.Test.YtonbjlkmcikbgaaGreatDoorCxD
namespace Go.Proofs.YtonbjlkmcikbgaaGreatDoor
open Go.RowKit
namespace Cx
set_option linter.unusedVariables false
set_option linter.unusedSimpArgs false

theorem Ran.shrink {ρ ρ' : Rn} {h h0 h' : Hp} {c c' : Nat} {w w' : World} (hs : ∀ n o, h0.get n = some o → h.get n = some o) (a : Ran ρ h0 c w ρ' h' c' w') : Ran ρ h c w ρ' h' c' w' :=
  ⟨a.lay, a.le, a.out, a.cc, a.os, a.tape, a.output, a.size, fun i hi hn => a.frame i hi fun ⟨n, o, x, e, ex, hx⟩ => hn ⟨n, o, x, hs n o e, ex, hx⟩, fun i hi ho => by
    obtain ⟨n, o, x, e, ex, hx⟩ := a.own i hi ho
    exact ⟨n, o, x, hs n o e, ex, hx⟩⟩
theorem drop_get {h : Hp} {n : Nat} (hn : n < cap0) {m : Nat} {o : Ob} (e : (Tr.set none 24 h n).get m = some o) : m ≠ n ∧ h.get m = some o := by
  rw [Tr.put _ _ _ hn] at e
  split at e
  · cases e
  · rename_i hm; exact ⟨hm, e⟩
/-- an object that is turned, and bears another name from then on -/
theorem Ran.over {ρ : Rn} {h : Hp} {c : Nat} {w w' : World} (l : Lay ρ h w) {n : Nat} {o : Ob} {x : Bk} (hn : n < cap0) (ho : h.get n = some o) (hx : ρ n = some x) (hc : c < cap0) (f : Free ρ c (c + 1)) (cs : List Value) (us : Array Value)
    (hz : us.size = x.sz) (hs : cs.length ≤ us.size) (hd : DenL ρ cs (us.toList.take cs.length)) (hw : w'.heap[x.b]? = some (.cells us o.ty (0, 0)))
    (hf : ∀ i, i ≠ x.b → w'.heap[i]? = w.heap[i]?) (hsz : w'.heap.size = w.heap.size) (h1 : w'.os = w.os) (h2 : w'.tape = w.tape) (h3 : w'.output = w.output) :
    Ran ρ h c w (upd ρ c x) (Tr.set (some ⟨o.ty, x.k, cs⟩) 24 (Tr.set none 24 h n) c) (c + 1) w' := by
  have hcn : ρ c = none := f c (Nat.le_refl _) (by omega)
  have hle := upd_le (x := x) hcn
  have hnew : (upd ρ c x) c = some x := by simp [upd]
  have get : ∀ m o', (Tr.set (some (⟨o.ty, x.k, cs⟩ : Ob)) 24 (Tr.set none 24 h n) c).get m = some o' → (m = c ∧ o' = ⟨o.ty, x.k, cs⟩) ∨ (m ≠ c ∧ m ≠ n ∧ h.get m = some o') := fun m o' e => by
    rw [Tr.put _ _ _ hc] at e
    split at e
    · rename_i hm
      injection e with e
      exact .inl ⟨hm, e.symm⟩
    · rename_i hm
      obtain ⟨e1, e2⟩ := drop_get hn e
      exact .inr ⟨hm, e1, e2⟩
  have old : ∀ m y, m ≠ c → (upd ρ c x) m = some y → ρ m = some y := fun m y hm e => by
    simp only [upd, if_neg hm] at e
    exact e
  refine ⟨⟨fun m o' e => ?_, fun m m' o1 o2 y y' e1 e2 ey ey' hyy => ?_⟩, hle, fun m hm => ?_, by omega, h1, h2, h3, by omega, fun i hi hno => ?_, fun i hi ⟨m, o', y, e, ey, hy⟩ => ?_⟩
  · rcases get m o' e with ⟨rfl, rfl⟩ | ⟨m1, m2, e⟩
    · exact ⟨x, us, hnew, rfl, hz, hw, hs, hd.le hle⟩
    · obtain ⟨y, us', g1, g2, g3, g4, g5, g6⟩ := l.ob m o' e
      refine ⟨y, us', hle _ _ g1, g2, g3, ?_, g5, g6.le hle⟩
      rw [hf _ (fun c => m2 (l.inj m n _ _ y x e ho g1 hx c))]
      exact g4
  · rcases get m o1 e1 with ⟨k1, k1'⟩ | ⟨m1, m2, q1⟩ <;> rcases get m' o2 e2 with ⟨k2, k2'⟩ | ⟨m1', m2', q2⟩
    · rw [k1, k2]
    · rw [k1, hnew] at ey
      injection ey with ey
      subst ey
      exact absurd (l.inj n m' _ _ x y' ho q2 hx (old _ _ m1' ey') hyy).symm m2'
    · rw [k2, hnew] at ey'
      injection ey' with ey'
      subst ey'
      exact absurd (l.inj m n _ _ y x q1 ho (old _ _ m1 ey) hx hyy) m2
    · exact l.inj m m' _ _ y y' q1 q2 (old _ _ m1 ey) (old _ _ m1' ey') hyy
  · simp only [upd]
    rw [if_neg (by omega)]
  · exact hf i fun c => hno ⟨n, o, x, ho, hx, c.symm⟩
  · rcases get m o' e with ⟨rfl, rfl⟩ | ⟨m1, m2, e⟩
    · rw [hnew] at ey
      injection ey with ey
      subst ey
      exact ⟨n, o, _, ho, hx, hy⟩
    · exact ⟨m, o', y, e, old _ _ m1 ey, hy⟩

section
variable {P : Program} {t : Tm} {h : Hp} {c : Nat} {o : Oper} {r : OR}
/-- cells that are read -/
theorem readV_sound {ρ : Rn} {w : World} (l : Lay ρ h w) {a : Addr} {n : Nat} {cs : List Value} (hr : readV h a n = some cs) {x : Bk} (hx : ρ a.block = some x) :
    ∃ us, DenL ρ cs us ∧ us.length = n ∧ ∀ w' : World, w'.heap[x.b]? = w.heap[x.b]? → ∀ j u, us[j]? = some u → w'.cell? ⟨x.b, a.off + j, none⟩ = some u := by
  simp only [readV, bd_some, forceL_eq, gd_some, Option.some.injEq] at hr
  obtain ⟨ob, hob, hl, rfl⟩ := hr
  obtain ⟨x', us, f1, f2, f3, f4, f5, f6⟩ := l.ob _ _ hob
  rw [hx] at f1
  injection f1 with f1
  subst f1
  have d := (f6.drop a.off).take n
  refine ⟨_, d, by rw [d.len, beq_of hl], fun w' hw j u hj => ?_⟩
  rw [cell_of_row w' x.b _ us ob.ty (0, 0) (hw.trans f4)]
  rw [List.getElem?_take] at hj
  split at hj
  · rw [List.getElem?_drop, List.getElem?_take] at hj
    split at hj
    · simpa using hj
    · cases hj
  · cases hj
theorem byteVals_eq : ∀ l : List UInt8, byteVals l = l.map fun b => Value.int .u8 b.toNat
  | [] => rfl
  | b :: l => by simp [byteVals, byteVals_eq l]
theorem flats_bytes : ∀ l : List UInt8, flats (byteVals l) = true
  | [] => rfl
  | b :: l => by simp [byteVals, flats, flat, flats_bytes l]
theorem firstCells_str (size n : Nat) (s : ByteArray) (hn : s.data.size = n) (w : World) : (Builtin.firstCells size n (.string s)).run P w = .ok (byteVals s.data.toList).toArray w := by
  subst hn
  simp [Builtin.firstCells, byteVals_eq]
  apply Array.ext'
  simp [ByteArray.size] at *
/-- the first cells of what is appended, copied -/
theorem firstV_sound {ρ : Rn} {w : World} (l : Lay ρ h w) {size n m : Nat} {x y : Value} {cs : List Value} (hr : firstV h (n * size) x = some cs) (hd : Den ρ x y) (hm : lenV x = some m) (hs : isSl x = true ∨ n = m) :
    ∃ us, DenL ρ cs us ∧ us.length = n * size ∧ (∀ w', (Builtin.lenOf y).run P w' = .ok m w') ∧ ∀ w' : World, (∀ i, i < w.heap.size → w'.heap[i]? = w.heap[i]?) → (Builtin.firstCells size n y).run P w' = .ok us.toArray w' := by
  cases x with
  | slice b k q =>
    simp only [lenV, Option.some.injEq] at hm
    subst hm
    cases b with
    | none =>
      have := hd.nil_slc_inv
      subst this
      simp only [firstV, gd_some, Option.some.injEq] at hr
      obtain ⟨h0, rfl⟩ := hr
      refine ⟨[], .nil, (beq_of h0).symm, fun _ => rfl, fun w' _ => ?_⟩
      exact run_firstCells_none w' size n k q
    | some a =>
      obtain ⟨bk, q', h1, h2, rfl, _⟩ := hd.slc_inv
      obtain ⟨us, g1, g2, g3⟩ := readV_sound l hr h1
      refine ⟨us, g1, g2, fun _ => rfl, fun w' hw => ?_⟩
      refine run_firstCells_some w' size n _ k q' us g2 fun j u hj => ?_
      rw [Addr.add_mid]
      have hlt : bk.b < w.heap.size := by
        simp only [firstV, readV, bd_some] at hr
        obtain ⟨ob, hob, _⟩ := hr
        exact l.old ⟨_, _, _, hob, h1, rfl⟩
      exact g3 w' (hw _ hlt) j u hj
  | string s =>
    simp only [lenV, Option.some.injEq] at hm
    have := hd.str_inv
    subst this
    simp only [firstV, forceL_eq, gd_some, Option.some.injEq] at hr
    obtain ⟨hl, rfl⟩ := hr
    have hnm : n = m := by
      rcases hs with hs | hs
      · cases hs
      · exact hs
    exact ⟨_, DenL.flat (flats_bytes _), beq_of hl, fun w' => by simp only [Builtin.lenOf, ← hm]; rfl, fun w' _ => firstCells_str size n s (by rw [hnm, hm]) w'⟩
  | _ => cases hm
theorem lenV_kind {ρ : Rn} {x y : Value} {m : Nat} (hd : Den ρ x y) (hm : lenV x = some m) : isSl x = true ∨ ∃ s, x = .string s := by
  cases x <;> first | exact .inl rfl | exact .inr ⟨_, rfl⟩ | cases hm

theorem srcD_some {d : Option TypeDesc} (h : srcD d = true) : (∃ e', d = some (.slice e')) ∨ d = some .string := by
  unfold srcD at h
  split at h
  · exact .inl ⟨_, rfl⟩
  · exact .inr rfl
  · cases h
/-- a row that has grown -/
theorem appNew_sound {h0 h : Hp} {e : TypeId} {size n : Nat} {cs : List Value} {r : OR} (hr : appNew h0 c e size n cs = some r) (hs : ∀ n o, h0.get n = some o → h.get n = some o) {ρ : Rn} {w w1 : World} (l : Lay ρ h w) (hl0 : Lay ρ h0 w) (f : Free ρ c (c + 1)) (hw : Below w.heap.size w w1)
    {us zs : List Value} (hd : DenL ρ cs us) {q : Nat} (hq : n ≤ q) (hq2 : q < unk) (hsz : us.length + zs.length = q * size) : ∃ h' ρ', r = .val (.slice (some ⟨c, 0, none⟩) n unk) h' (c + 1) ∧ Den ρ' (.slice (some ⟨c, 0, none⟩) n unk) (.slice (some ⟨w1.heap.size, 0, none⟩) n q) ∧
      Ran ρ h c w ρ' h' (c + 1) (w1.alloc (.cells (us ++ zs).toArray e)) := by
  simp only [appNew, bd_some, Option.some.injEq] at hr
  obtain ⟨p, hp, rfl⟩ := hr
  obtain ⟨hc, rfl⟩ := newV_some hp
  have rb := RanF.of_below (c := c) hl0 hw
  have hcl := hd.len
  have rn := Ran.new rb.lay hc f ⟨e, size, cs⟩ (us ++ zs).toArray (by simp; omega) (by
    simp only [List.toList_toArray]
    rw [List.take_left' hcl]
    exact hd)
  refine ⟨_, upd ρ c ⟨w1.heap.size, (us ++ zs).toArray.size, size⟩, rfl, .grown (x := ⟨w1.heap.size, (us ++ zs).toArray.size, size⟩) (by simp [upd]) hq hq2 (by simp; omega), ?_⟩
  exact Ran.shrink hs (rb.trans rn)
theorem app_room {w w' : World} {t tx ty e : TypeId} {i : TypeInfo} (ht : P.underlying t = some (.slice e)) (hi : P.info? e = some i) {b off sLen sCap : Nat} {x : Value} {n : Nat} {news : List Value} (hs : Src P i.size tx x n news w)
    (hroom : sLen + n ≤ sCap) (hst : (storeCells ⟨b, off + sLen * i.size, none⟩ news).run P w = .ok () w') :
    (Builtin.append_ #[t, tx] ty #[.slice (some ⟨b, off, none⟩) sLen sCap, x]).run P w = .ok (.slice (some ⟨b, off, none⟩) (sLen + n) sCap) w' := by
  rcases hs.kind with ⟨e', hk⟩ | hk <;> simp [Builtin.append_, run_underlying ht, run_underlying hk, sizeOf, typeInfo, hi, hs.len, hroom, hs.cells, Addr.add_lit, hst]
theorem app_none {w : World} {t tx ty e : TypeId} {i : TypeInfo} (ht : P.underlying t = some (.slice e)) (hi : P.info? e = some i) {sLen sCap : Nat} {x : Value} {n : Nat} {news : List Value} (hs : Src P i.size tx x n news w)
    (hroom : sLen + n ≤ sCap) : (Builtin.append_ #[t, tx] ty #[.slice none sLen sCap, x]).run P w = .ok (.slice none (sLen + n) sCap) w := by
  rcases hs.kind with ⟨e', hk⟩ | hk <;> simp [Builtin.append_, run_underlying ht, run_underlying hk, sizeOf, typeInfo, hi, hs.len, hroom, hs.cells]
theorem unk_max {q : Nat} (h : q ≤ maxLen) : q < unk := by simp only [maxLen, unk] at *; omega
theorem appV_sound {tt xt e : TypeId} {ie : TypeInfo} {z : Value} (hu : P.underlying tt = some (.slice e)) (hk : srcD (P.underlying xt) = true) (hi : P.info? e = some ie) (hz : ie.zero = some z) (hzl : z.cells.size = ie.size) (h0 : 0 < ie.size) (hby : ie.bytes ≤ 1000)
    {s x : Value} (hr : appV P h c e ie.size s x = some r) :
    ∃ v h' c', r = .val v h' c' ∧ c ≤ c' ∧ ∀ ρ w u y ty, Den ρ s u → Den ρ x y → Lay ρ h w → Free ρ c c' → ∃ q w' ρ', (Builtin.append_ #[tt, xt] ty #[u, y]).run P w = .ok q w' ∧ Den ρ' v q ∧ Ran ρ h c w ρ' h' c' w' := by
  have hk := srcD_some hk
  unfold appV at hr
  split at hr
  case h_2 => cases hr
  rename_i base n cap
  simp only [bd_some, gd_some, Bool.and_eq_true] at hr
  obtain ⟨m, hm, new, hnew, ⟨hle, hone⟩, hr⟩ := hr
  have hle := ble_of hle
  have src : ∀ {ρ : Rn} {w : World} {y : Value}, Lay ρ h w → Den ρ x y → ∃ us, DenL ρ new us ∧ Src P ie.size xt y m us w := fun l d => by
    obtain ⟨us, g1, g2, g3, g4⟩ := firstV_sound l hnew d hm (.inr rfl)
    exact ⟨us, g1, ⟨hk, g3, g4 _ fun i _ => rfl, g4 _ fun i _ => rfl, g2, one_den g1 hone⟩⟩
  have fits : ∀ {q : Nat}, q < n + m → Builtin.nextslicecap (n + m) q * ie.bytes ≤ 281474976710656 := fun hq => by
    refine growslice_fits hq ?_
    have : (n + m) * ie.bytes ≤ cap0 * 1000 := Nat.mul_le_mul hle hby
    unfold cap0 at this
    omega
  have hmax : n + m ≤ maxLen := by simp only [maxLen]; unfold cap0 at hle; omega
  have grow : ∀ {h0 : Hp} {r : OR} {cs : List Value}, appNew h0 c e ie.size (n + m) cs = some r → (∀ n o, h0.get n = some o → h.get n = some o) → ∃ v h' c', r = .val v h' c' ∧ c' = c + 1 ∧ v = .slice (some ⟨c, 0, none⟩) (n + m) unk ∧ ∀ ρ w y ty B q us, Den ρ x y → Lay ρ h w → Lay ρ h0 w → Free ρ c c' → q < n + m →
      (Builtin.firstCells ie.size n (.slice B n q)).run P w.drew = .ok us.toArray w.drew → us.length = n * ie.size → (∀ news, DenL ρ new news → DenL ρ cs (us ++ news)) → ∃ q' w' ρ', (Builtin.append_ #[tt, xt] ty #[.slice B n q, y]).run P w = .ok q' w' ∧ Den ρ' v q' ∧ Ran ρ h c w ρ' h' c' w' := by
    intro h0' r cs hr hsub
    have hr' := hr
    simp only [appNew, bd_some, Option.some.injEq] at hr'
    obtain ⟨p, hp, rfl⟩ := hr'
    obtain ⟨hc, rfl⟩ := newV_some hp
    refine ⟨_, _, _, rfl, rfl, rfl, fun ρ w y ty B q us dx l l0 f hq hold hlen hcs => ?_⟩
    obtain ⟨news, g1, g2⟩ := src l dx
    have hrun := run_append_grow_src w tt xt ty e ie z hu hi hz B n q us hold y m news g2 hq (by simp only [maxLen] at hmax; omega) (fits hq)
    have hge := grownCap_ge w (n + m) q e
    have hcm := grownCap_le_maxLen w (n + m) q e hmax
    have hzz : (Builtin.zeroCells z.cells (grownCap w (n + m) q e - (n + m))).toList.length = (grownCap w (n + m) q e - (n + m)) * ie.size := by simp [size_zeroCells, hzl]
    obtain ⟨h', ρ', e1, e2, e3⟩ := appNew_sound hr hsub l l0 f ((Below.refl _ _).drew : Below w.heap.size w w.drew) (hcs news g1) hge (unk_max hcm) (zs := (Builtin.zeroCells z.cells (grownCap w (n + m) q e - (n + m))).toList) (by
      rw [hzz, List.length_append, hlen, g2.newsLen, ← Nat.add_mul, ← Nat.add_mul]
      congr 1
      omega)
    injection e1 with e1 e1' _
    subst e1'
    refine ⟨_, _, ρ', hrun, e2, ?_⟩
    have hx : (us ++ news).toArray ++ Builtin.zeroCells z.cells (grownCap w (n + m) q e - (n + m)) = (us ++ news ++ (Builtin.zeroCells z.cells (grownCap w (n + m) q e - (n + m))).toList).toArray := by
      apply Array.ext'
      simp
    rw [hx]
    exact e3
  split at hr
  · -- a row that has grown before
    rename_i hcap
    have hcap := beq_of hcap
    simp only [bd_some, gd_some, Tr.setK_eq, forceL_eq, Bool.and_eq_true] at hr
    obtain ⟨a, rfl, ob, hob, ⟨ha0, hk', hty, hlen, hlt⟩, hr⟩ := hr
    have ha0 := beq_of ha0
    have hk' := beq_of hk'
    have hty := beq_of hty
    have hlen := ble_of hlen
    have hlt := blt_of hlt
    obtain ⟨v, h', c', rfl, hc', hv, G⟩ := grow hr fun n o e => (drop_get hlt e).2
    refine ⟨v, h', c', rfl, by omega, fun ρ w u y ty du dx l f => ?_⟩
    obtain ⟨bk, q, g1, g2, rfl, ⟨g3, _⟩ | ⟨_, g3, g4, g5⟩⟩ := du.slc_inv
    · exact absurd hcap g3
    obtain ⟨bk', us, f1, f2, f3, f4, f5, f6⟩ := l.ob _ _ hob
    rw [g1] at f1
    injection f1 with f1
    subst f1
    rw [ha0, f2, hk'] at g5
    have hus : n * ie.size ≤ us.size := by omega
    by_cases hq : n + m ≤ q
    · obtain ⟨news, k1, k2⟩ := src l dx
      have hfit : (n + m) * ie.size ≤ q * ie.size := Nat.mul_le_mul_right _ hq
      have hnl := k2.newsLen
      rw [Nat.add_mul] at hfit
      have hst := run_storeCells_at (P := P) bk.b (a.off + n * ie.size) ob.ty news 0 us w f4 (by rw [hnl, ha0]; omega) k2.one
      simp only [Nat.add_zero] at hst
      have hrun := app_room (ty := ty) hu hi k2 hq hst
      simp only [appNew, bd_some, Option.some.injEq] at hr
      obtain ⟨p, hp, hr⟩ := hr
      obtain ⟨hc, rfl⟩ := newV_some hp
      injection hr with e1 e2 e3
      subst e1 e2 e3
      have hol : (ob.cs.take (n * ie.size)).length = n * ie.size := by simp; omega
      have dtk : DenL ρ (ob.cs.take (n * ie.size)) (us.toList.take (n * ie.size)) := by
        have := f6.take (n * ie.size)
        rwa [List.take_take, Nat.min_eq_left hlen] at this
      have hutl : (us.toList.take (n * ie.size)).length = n * ie.size := by simp; omega
      have hd : DenL ρ (ob.cs.take (n * ie.size) ++ new) (us.toList.take (n * ie.size) ++ news) := dtk.append k1
      have ov := Ran.over (w' := w.setRow bk.b (us.toList.take (a.off + n * ie.size) ++ news ++ us.toList.drop (a.off + n * ie.size + news.length)).toArray) l hlt hob g1 hc f (ob.cs.take (n * ie.size) ++ new) (us.toList.take (a.off + n * ie.size) ++ news ++ us.toList.drop (a.off + n * ie.size + news.length)).toArray
        (by rw [← f3, ha0]; simp; omega) (by rw [← hd.len, ha0]; simp) (by
          rw [ha0, Nat.zero_add]
          simp only [List.toList_toArray]
          rw [List.take_left' hd.len]
          exact hd) (setRow_heap w bk.b us _ ob.ty (0, 0) f4) (fun i hi => by
            simp only [World.setRow, Array.getElem?_modify]
            rw [if_neg (fun e => hi e.symm)]) (by simp [World.setRow]) rfl rfl rfl
      rw [f2, hk', hty] at ov
      refine ⟨_, _, _, hrun, ?_, ov⟩
      rw [ha0]
      refine .grown (x := bk) (by simp [upd]) hq g4 ?_
      rw [f2, hk']
      omega
    · have hold : (Builtin.firstCells ie.size n (.slice (some ⟨bk.b, a.off, none⟩) n q)).run P w.drew = .ok (us.toList.take (n * ie.size)).toArray w.drew := by
        refine run_firstCells_some w.drew ie.size n _ n q _ (by simp; omega) fun j v hj => ?_
        rw [Addr.add_mid, ha0, Nat.zero_add]
        rw [cell_of_row w.drew bk.b j us ob.ty (0, 0) f4]
        rw [List.getElem?_take] at hj
        split at hj
        · simpa using hj
        · cases hj
      have dtk : DenL ρ (ob.cs.take (n * ie.size)) (us.toList.take (n * ie.size)) := by
        have := f6.take (n * ie.size)
        rwa [List.take_take, Nat.min_eq_left hlen] at this
      exact G ρ w y ty _ q _ dx l (l.drop hlt) f (by omega) hold (by simp; omega) fun news hn => dtk.append hn
  · rename_i hcap
    have hcap := beq_no hcap
    split at hr
    · rename_i hroom
      have hroom := ble_of hroom
      cases base with
      | some a =>
        simp only [bd_some, Option.some.injEq] at hr
        obtain ⟨h1, hset, rfl⟩ := hr
        refine ⟨_, _, _, rfl, Nat.le_refl _, fun ρ w u y ty du dx l f => ?_⟩
        obtain ⟨bk, q, g1, g2, rfl, ⟨_, rfl⟩ | ⟨g3, _⟩⟩ := du.slc_inv
        · obtain ⟨news, k1, k2⟩ := src l dx
          obtain ⟨w', hst, rn⟩ := setV_sound (P := P) (c := c) hset l k1 (x := bk) g1
          obtain ⟨ab, ao, as⟩ := a
          simp only at g2
          subst g2
          exact ⟨_, w', ρ, app_room hu hi k2 hroom hst, .slc g1 hcap, rn⟩
        · exact absurd g3 hcap
      | none =>
        simp only [gd_some, Option.some.injEq] at hr
        obtain ⟨hm0, rfl⟩ := hr
        refine ⟨_, _, _, rfl, Nat.le_refl _, fun ρ w u y ty du dx l f => ?_⟩
        obtain ⟨news, k1, k2⟩ := src l dx
        have := du.nil_slc_inv
        subst this
        have := app_none (ty := ty) hu hi k2 hroom
        rw [beq_of hm0] at this
        exact ⟨_, w, ρ, this, .flat rfl, .refl l⟩
    · rename_i hroom
      have hroom : ¬ n + m ≤ cap := fun c => by rw [Nat.ble_eq_true_of_le c] at hroom; cases hroom
      simp only [bd_some, forceL_eq] at hr
      obtain ⟨old, hold, hr⟩ := hr
      obtain ⟨v, h', c', rfl, hc', hv, G⟩ := grow hr fun n o e => e
      refine ⟨v, h', c', rfl, by omega, fun ρ w u y ty du dx l f => ?_⟩
      obtain ⟨us, k1, k2, k3, k4⟩ := firstV_sound l hold du (m := n) rfl (.inl rfl)
      cases base with
      | none =>
        have := du.nil_slc_inv
        subst this
        exact G ρ w y ty _ cap us dx l l f (by omega) (k4 _ fun i _ => rfl) k2 fun news hn => k1.append hn
      | some a =>
        obtain ⟨bk, q, g1, g2, rfl, ⟨_, rfl⟩ | ⟨g3, _⟩⟩ := du.slc_inv
        · exact G ρ w y ty _ q us dx l l f (by omega) (k4 _ fun i _ => rfl) k2 fun news hn => k1.append hn
        · exact absurd g3 hcap
end
end Cx
end Go.Proofs.YtonbjlkmcikbgaaGreatDoor
