/-
  The clean machine, part 8: append, len, min and max, maps.
-/
import Derived.Test.YtbakljlaladpoaaCl7
namespace Go.Cl
open Go.RowKit

theorem extract_all (s : ByteArray) : s.extract 0 s.size = s := by
  apply ba_ext
  rw [ByteArray.data_extract, Array.toList_extract]
  simp only [List.extract, List.drop_zero, Nat.sub_zero]
  rw [List.take_of_length_le (by rw [← size_data]; exact Nat.le_refl _)]

theorem src_ok {P : Program} {base : Nat} {S : St} (h : SR base S) {z n : Nat} {y y' : Value} {new : List Value} (hy : VR S y y') (hs : srcCells S.s z y = some (n, new)) :
    ∃ new', VRL S new new' ∧ new.length = n * z ∧ ∀ W : World, W.heap = S.w.heap → (Builtin.lenOf y').run P W = .ok n W ∧ (Builtin.firstCells z n y').run P W = .ok new'.toArray W := by
  unfold srcCells at hs
  split at hs
  · injection hs with hs; injection hs with e1 e2; subst e1; subst e2
    cases hy
    exact ⟨[], VRL.nil, by simp, fun W _ => by simp [Builtin.lenOf, Builtin.firstCells]⟩
  · rename_i i off m c
    cases hy with
    | slice _ _ _ _ a cap h0 hz hr =>
    split at hs
    · injection hs with hs; injection hs with e1 e2; subst e1; subst e2
      exact ⟨[], VRL.nil, by simp, fun W _ => by simp [Builtin.lenOf, Builtin.firstCells, loadCells, loadCellsFrom]⟩
    · rename_i m
      split at hs
      · rename_i l hl
        injection hs with hs; injection hs with e1 e2; subst e1; subst e2
        obtain ⟨b, hb, hlive, _, _, hln, hvl, hcell⟩ := h.cells hl
        obtain ⟨⟨b', hb', _, hadr⟩, _⟩ := hr (by omega)
        rw [hb] at hb'; obtain rfl := Option.some.inj hb'
        obtain rfl := hadr hlive.1
        refine ⟨_, hvl, hln, fun W hW => ⟨by simp [Builtin.lenOf], ?_⟩⟩
        have hc : ∀ k o, W.cell? ⟨k, o, none⟩ = S.w.cell? ⟨k, o, none⟩ := fun k o => World.cell?_of_block (by rw [hW])
        have := run_loadCells P W (S.e.loc i c).1 ((S.e.loc i c).2 + off) _ (fun p hp => by rw [hc]; exact hcell p hp)
        simp only [Builtin.firstCells]
        rw [this]
        congr 2
        simp only [conc, hc]
      · cases hs
  · rename_i b
    cases hy
    split at hs
    · rename_i hz
      obtain rfl : z = 1 := by simpa [Nat.beq_eq] using hz
      injection hs with hs; injection hs with e1 e2; subst e1; subst e2
      refine ⟨ofBytes b.data.toList, ofBytes_plain _, by simp [ofBytes], fun W _ => ?_⟩
      rw [← size_data]
      refine ⟨by simp [Builtin.lenOf], ?_⟩
      simp only [Builtin.firstCells, extract_all, Sem.run_pure]
      congr 1
      rw [← Array.toList_inj]
      simp [ofBytes]
    · cases hs
  · cases hs

section
variable {P : Program} {w : World} {ts : Array TypeId} {as : Array Value} {st xt e ty : TypeId} {xd : TypeDesc} {z by8 n sLen sCap : Nat} {zv : Value} {bs : Option Addr} {y : Value} {new : List Value}
/-- What is appended, in the model: a row or a text, or so many noughts. -/
def Src (P : Program) (w w2 : World) (e : TypeId) (z : Nat) (xd : TypeDesc) (y : Value) (n : Nat) (new : List Value) : Prop :=
  (((∃ e2, xd = .slice e2) ∨ xd = .string) ∧ (Builtin.lenOf y).run P w = .ok n w ∧ (Builtin.firstCells z n y).run P w2 = .ok new.toArray w2) ∨
  (∃ k kk i zv, xd = .int k ∧ y = .int kk n ∧ P.info? e = some i ∧ n * i.bytes ≤ 4294967296 ∧ n ≤ 4294967296 ∧ zeroB P e = some zv ∧ zv.cells.size = z ∧ 0 < z ∧ new = (Builtin.zeroCells zv.cells n).toList)
theorem wrap_small {n : Nat} (h : n ≤ 4294967296) : IntKind.i64.wrap (n : Int) = n := by
  have e1 : IntKind.i64.bits = 64 := rfl
  have e2 : IntKind.i64.signed = true := rfl
  simp only [IntKind.wrap, e1, e2, Bool.true_and]
  simp
  omega
set_option maxHeartbeats 1000000 in
theorem run_append_same (h0 : ts[0]? = some st) (h1 : ts[1]? = some xt) (a0 : as[0]? = some (.slice bs sLen sCap)) (a1 : as[1]? = some y) (hu : P.underlying st = some (.slice e)) (hx : P.underlying xt = some xd)
    (hz : sizeB P e = some z) (hsrc : Src P w w e z xd y n new) (hroom : sLen + n ≤ sCap) (hn : n = 0) (hnew : new = []) :
    (Builtin.append_ ts ty as).run P w = .ok (.slice bs sLen sCap) w := by
  subst hn; subst hnew
  have hr : sLen ≤ sCap := by omega
  rcases hsrc with ⟨hni, hlen, hfc⟩ | ⟨k, kk, i, zv, rfl, rfl, hi, hb1, hb2, hzv, hzs, hzp, hnew⟩
  · cases bs with
    | none => rcases hni with ⟨e2, rfl⟩ | rfl <;> simp [Builtin.append_, h0, h1, a0, a1, run_underlying hu, run_underlying hx, run_sizeOf hz, hlen, hr, hfc]
    | some a => rcases hni with ⟨e2, rfl⟩ | rfl <;> simp [Builtin.append_, h0, h1, a0, a1, run_underlying hu, run_underlying hx, run_sizeOf hz, hlen, hr, hfc, storeCells]
  · have hw : IntKind.i64.wrap 0 = 0 := wrap_small (n := 0) (by omega)
    have hti : ∀ W : World, (typeInfo e).run P W = .ok i W := fun W => by simp [typeInfo, hi]
    cases bs with
    | none => simp [Builtin.append_, h0, h1, a0, a1, run_underlying hu, run_underlying hx, run_sizeOf hz, hr, asInt, asIntOf, hw, hti]
    | some a => simp [Builtin.append_, h0, h1, a0, a1, run_underlying hu, run_underlying hx, run_sizeOf hz, hr, asInt, asIntOf, hw, hti, storeCells]
set_option maxHeartbeats 1000000 in
theorem run_append_in {a : Addr} {w' : World} (h0 : ts[0]? = some st) (h1 : ts[1]? = some xt) (a0 : as[0]? = some (.slice (some a) sLen sCap)) (a1 : as[1]? = some y) (hu : P.underlying st = some (.slice e)) (hx : P.underlying xt = some xd)
    (hz : sizeB P e = some z) (hsrc : Src P w w e z xd y n new) (hpos : 0 < n) (hroom : sLen + n ≤ sCap) (hst : (storeCells (a.add (sLen * z)) new).run P w = .ok () w') :
    (Builtin.append_ ts ty as).run P w = .ok (.slice (some a) (sLen + n) sCap) w' := by
  rcases hsrc with ⟨hni, hlen, hfc⟩ | ⟨k, kk, i, zv, rfl, rfl, hi, hb1, hb2, hzv, hzs, hzp, hnew⟩
  · rcases hni with ⟨e2, rfl⟩ | rfl <;> simp [Builtin.append_, h0, h1, a0, a1, run_underlying hu, run_underlying hx, run_sizeOf hz, hlen, hroom, hfc, hst]
  · have hw := wrap_small hb2
    have hti : ∀ W : World, (typeInfo e).run P W = .ok i W := fun W => by simp [typeInfo, hi]
    have hneg : ¬ (n : Int) < 0 := by omega
    have h48 : ¬ (281474976710656 < (n : Int) * (i.bytes : Int)) := by
      have : ((n * i.bytes : Nat) : Int) = (n : Int) * (i.bytes : Int) := by push_cast; rfl
      omega
    have hnz : ¬ n * z = 0 := by have := Nat.mul_pos hpos hzp; omega
    subst hnew
    simp [Builtin.append_, h0, h1, a0, a1, run_underlying hu, run_underlying hx, run_sizeOf hz, hroom, hst, asInt, asIntOf, hw, hti, hneg, h48, hnz, run_zeroValue hzv]
set_option maxHeartbeats 1000000 in
theorem run_append_re {old : Array Value} (h0 : ts[0]? = some st) (h1 : ts[1]? = some xt) (a0 : as[0]? = some (.slice bs sLen sCap)) (a1 : as[1]? = some y) (hu : P.underlying st = some (.slice e)) (hx : P.underlying xt = some xd)
    (hz : sizeB P e = some z) (hb8 : bytesB P e = some by8) (hzv : zeroB P e = some zv) (hsrc : Src P w w.drew e z xd y n new) (hpos : 0 < n)
    (hroom : ¬ sLen + n ≤ sCap) (hold : (Builtin.firstCells z sLen (.slice bs sLen sCap)).run P w.drew = .ok old w.drew) (hsmall : sLen + n ≤ 4294967296) (hbig : (sLen + n) * by8 ≤ 4294967296) :
    (Builtin.append_ ts ty as).run P w = .ok (.slice (some ⟨w.heap.size, 0, none⟩) (sLen + n) (grownCap w (sLen + n) sCap e))
      (w.drew.alloc (.cells (old ++ new.toArray ++ Builtin.zeroCells zv.cells (grownCap w (sLen + n) sCap e - (sLen + n))) e)) := by
  obtain ⟨i, hi, rfl⟩ := info_of_bytes hb8
  have h63 : ¬ (9223372036854775807 < ((sLen : Int) + (n : Int))) := by omega
  have hfit : Builtin.nextslicecap (sLen + n) sCap * i.bytes ≤ 281474976710656 := growslice_fits (by omega) (by omega)
  have h48 : ¬ (281474976710656 < Builtin.nextslicecap (sLen + n) sCap * i.bytes) := by omega
  have hti : ∀ W : World, (typeInfo e).run P W = .ok i W := fun W => by simp [typeInfo, hi]
  have hroomW : ∀ (W : World) (k : Nat), (askRoom k).run P W = .ok () W := fun W k => by
    unfold askRoom
    split
    · rfl
    · rfl
  rcases hsrc with ⟨hni, hlen, hfc⟩ | ⟨k, kk, i2, zv2, rfl, rfl, hi2, hb1, hb2, hzv2, hzs, hzp, hnew⟩
  · rcases hni with ⟨e2, rfl⟩ | rfl <;> simp [Builtin.append_, h0, h1, a0, a1, run_underlying hu, run_underlying hx, run_sizeOf hz, hlen, hroom, hfc, hold, hti, h63, h48, run_zeroValue hzv, Question.forced, hroomW, newRow, grownCap]
  · rw [hzv] at hzv2
    obtain rfl := Option.some.inj hzv2
    rw [hi] at hi2
    obtain rfl := Option.some.inj hi2
    have hw := wrap_small hb2
    have hneg : ¬ (n : Int) < 0 := by omega
    have h48n : ¬ (281474976710656 < (n : Int) * (i.bytes : Int)) := by
      have : ((n * i.bytes : Nat) : Int) = (n : Int) * (i.bytes : Int) := by push_cast; rfl
      omega
    have hnz : ¬ n * z = 0 := by have := Nat.mul_pos hpos hzp; omega
    subst hnew
    simp [Builtin.append_, h0, h1, a0, a1, run_underlying hu, run_underlying hx, run_sizeOf hz, hroom, hold, hti, h63, h48, run_zeroValue hzv, Question.forced, hroomW, newRow, grownCap, asInt, asIntOf, hw, hneg, h48n, hnz]
end
theorem srcA_ok {P : Program} {base : Nat} {S : St} (h : SR base S) {e : TypeId} {z n by8 : Nat} {zv : Value} {xd : TypeDesc} {y y' : Value} {new : List Value} (hz : sizeB P e = some z) (hby : bytesB P e = some by8) (hzv : zeroB P e = some zv)
    (hxd : (match xd with | .slice _ => true | .string => true | .int _ => true | _ => false) = true) (hy : VR S y y') (hs : srcA S.s z by8 zv xd y = some (n, new)) :
    ∃ new', VRL S new new' ∧ new.length = n * z ∧ ∀ W W2 : World, W.heap = S.w.heap → W2.heap = S.w.heap → Src P W W2 e z xd y' n new' := by
  cases xd <;> try (cases hxd; done)
  case int k =>
    simp only [srcA] at hs
    split at hs
    case h_2 => cases hs
    rename_i kk m
    split at hs
    case isFalse => cases hs
    rename_i hc
    simp only [Bool.and_eq_true, Nat.ble_eq, Nat.beq_eq, Nat.blt_eq] at hc
    obtain ⟨⟨⟨⟨hb1, hb2⟩, hpl⟩, hzn⟩, hzp⟩ := hc
    injection hs with hs; injection hs with e1 e2; subst e1; subst e2
    cases hy
    obtain ⟨i, hi, hib⟩ := info_of_bytes hby
    have hzs : zv.cells.size = z := by simpa using hzn
    refine ⟨(Builtin.zeroCells zv.cells m).toList, ⟨by rw [repeatL_length, hzn]; simp [Builtin.zeroCells, hzs], fun p hp => ?_⟩, by rw [repeatL_length, hzn], fun W W2 _ _ => .inr ⟨k, kk, i, zv, rfl, rfl, hi, by rw [hib]; exact hb1, hb2, hzv, hzs, hzp, rfl⟩⟩
    rw [repeatL_length, hzn] at hp
    exact zeros_ok (S := S) hpl hzn m (m * zv.cells.size) (by rw [hzs]; exact Nat.le_refl _) p hp
  case slice e2 =>
    obtain ⟨new', h1, h2, h3⟩ := src_ok (P := P) h hy (by simpa [srcA] using hs)
    exact ⟨new', h1, h2, fun W W2 hW hW2 => .inl ⟨.inl ⟨e2, rfl⟩, (h3 W hW).1, (h3 W2 hW2).2⟩⟩
  case string =>
    obtain ⟨new', h1, h2, h3⟩ := src_ok (P := P) h hy (by simpa [srcA] using hs)
    exact ⟨new', h1, h2, fun W W2 hW hW2 => .inl ⟨.inr rfl, (h3 W hW).1, (h3 W2 hW2).2⟩⟩

theorem src_of_cells {base : Nat} {S : St} (h : SR base S) {i off c len z : Nat} {old : List Value} (hc : S.s.cellsAt i off c (len * z) = some old) : srcCells S.s z (.slice (some ⟨i, off, none⟩) len c) = some (len, old) := by
  cases len with
  | zero =>
    obtain ⟨_, _, _, _, _, hl, _⟩ := h.cells hc
    have : old = [] := List.eq_nil_of_length_eq_zero (by simpa using hl)
    simp [srcCells, this]
  | succ m => simp [srcCells, hc]

theorem zeroCells_size (z : Array Value) (n : Nat) : (Builtin.zeroCells z n).size = n * z.size := by simp [Builtin.zeroCells]

/-- What a new row holds: the old cells, the new ones, noughts. -/
theorem row_size {old new : List Value} {zv : Value} {z len n cap : Nat} (ho : old.length = len * z) (hn : new.length = n * z) (hz : zv.cells.toList.length = z) (hcap : len + n ≤ cap) :
    (old.toArray ++ new.toArray ++ Builtin.zeroCells zv.cells (cap - (len + n))).size = cap * z := by
  simp only [Array.size_append, List.size_toArray, zeroCells_size]
  have : zv.cells.size = z := by simpa using hz
  rw [this, ho, hn, ← Nat.add_mul, ← Nat.add_mul]
  congr 1
  omega
theorem row_getD {old new : List Value} {zs : Array Value} (p : Nat) (h : p < old.length + new.length) : (old.toArray ++ new.toArray ++ zs).toList.getD p undef = (old ++ new).getD p undef := by
  simp only [Array.toList_append]
  rw [getD_append_lt _ _ _ (by simpa using h)]

set_option maxHeartbeats 1000000 in
theorem appendA_ok {P : Program} {base : Nat} {S : St} (h : SR base S) {st xt ty : TypeId} {x y x' y' v : Value} {s' : ASt} (hx : VR S x x') (hy : VR S y y') (ha : appendA P S.s st xt x y = some (v, s')) {ts : Array TypeId} {as : Array Value}
    (h0 : ts[0]? = some st) (h1 : ts[1]? = some xt) (a0 : as[0]? = some x') (a1 : as[1]? = some y') : Does P base S (Builtin.append_ ts ty as) v s' := by
  unfold appendA at ha
  split at ha
  case h_2 => cases ha
  rename_i e xd hu hxu
  split at ha
  case h_1 => cases ha
  rename_i hxd
  split at ha
  case h_2 => cases ha
  rename_i z by8 zv hz hby hzv
  split at ha
  case h_2 => cases ha
  rename_i n new hsrc
  obtain ⟨new', hvn, hnl, hrun⟩ := srcA_ok (P := P) h hz hby hzv hxd hy hsrc
  have hnl' : new'.length = n * z := by rw [← hvn.1]; exact hnl
  have hsw := hrun S.w S.w rfl rfl
  have hsd := hrun S.w S.w.drew rfl rfl
  split at ha
  case h_2 => cases ha
  rename_i a len c
  split at ha
  case isFalse => cases ha
  rename_i hcond
  simp only [Bool.and_eq_true, Nat.ble_eq, Nat.blt_eq, Nat.beq_eq] at hcond
  obtain ⟨⟨⟨⟨hbig, hsmall⟩, hzpos⟩, hnewok⟩, hzl⟩ := hcond
  have hokn := hvn.okCell hnewok
  cases n with
  | zero =>
    simp only at ha
    injection ha with ha; injection ha with e1 e2; subst e1; subst e2
    have hnn : new' = [] := List.eq_nil_of_length_eq_zero (by rw [hnl']; simp)
    have hx0 := hx
    cases hx with
    | sliceNil => exact ⟨S, _, rfl, run_append_same h0 h1 a0 a1 hu hxu hz hsw (Nat.le_refl _) rfl hnn, hx0, Good.refl h⟩
    | slice i off _ _ a cap hle _ _ => exact ⟨S, _, rfl, run_append_same h0 h1 a0 a1 hu hxu hz hsw hle rfl hnn, hx0, Good.refl h⟩
  | succ m =>
    simp only at ha
    have hn1 : 0 < m + 1 := Nat.succ_pos _
    generalize m + 1 = n at *
    -- a new row of the new cells alone
    have fresh : ∀ (bs : Option Addr), as[0]? = some (.slice bs 0 0) → newSlice S.s new n z = some (v, s') → Does P base S (Builtin.append_ ts ty as) v s' := by
      intro bs hb hn
      have hold : (Builtin.firstCells z 0 (.slice bs 0 0)).run P S.w.drew = .ok #[] S.w.drew := by cases bs <;> simp [Builtin.firstCells, loadCells, loadCellsFrom]
      have hbig0 : (0 + n) * by8 ≤ 4294967296 := Nat.le_trans (Nat.mul_le_mul_right _ (by omega)) hbig
      have hr := run_append_re (ty := ty) h0 h1 hb a1 hu hxu hz hby hzv hsd hn1 (by omega) hold (by omega) hbig0
      have hge := grownCap_ge S.w (0 + n) 0 e
      have hsz := row_size (old := []) (new := new') (zv := zv) (z := z) (len := 0) (n := n) (cap := grownCap S.w (0 + n) 0 e) (by simp) hnl' hzl hge
      obtain ⟨T, k1, k2, k3, k4⟩ := newSlice_ok h hn ([].toArray ++ new'.toArray ++ Builtin.zeroCells zv.cells (grownCap S.w (0 + n) 0 e - (0 + n))) e (0, 0)
        (S.w.drew.alloc (.cells ([].toArray ++ new'.toArray ++ Builtin.zeroCells zv.cells (grownCap S.w (0 + n) 0 e - (0 + n))) e)) (grownCap S.w (0 + n) 0 e) ⟨rfl, rfl, rfl, rfl⟩ (.inl rfl)
        (by rw [hsz, hnl]; exact Nat.mul_le_mul_right _ (by omega)) (fun p hp => by rw [row_getD p (by simp; rw [hnl']; omega), List.nil_append]; exact hvn.2 p hp) (by omega) (by rw [hsz]; exact Nat.le_refl _)
      rw [Nat.zero_add] at hr
      refine ⟨T, _, k1, ?_, k3, k4⟩
      rw [k2, hr]
      simp
    split at ha
    · -- nil
      split at ha
      · cases hx; exact fresh none a0 ha
      · cases ha
    · rename_i i off
      cases hx with
      | slice _ _ _ _ a1' cap hle hz0 hr =>
      split at ha
      · split at ha
        · rename_i hl0
          obtain rfl : len = 0 := by simpa [Nat.beq_eq] using hl0
          obtain rfl := hz0 rfl
          exact fresh (some a1') a0 ha
        · cases ha
      · rename_i c0
        simp only [Nat.succ_eq_add_one] at ha hr hz0
        split at ha
        case h_2 => cases ha
        rename_i b hb
        split at ha
        case isFalse => cases ha
        rename_i hc2
        simp only [Bool.and_eq_true, Nat.ble_eq, Nat.beq_eq] at hc2
        obtain ⟨⟨hown, hlow⟩, hesz⟩ := hc2
        split at ha
        · -- the row grows
          rename_i hc3
          simp only [Bool.and_eq_true, Nat.beq_eq] at hc3
          obtain ⟨⟨hcur, rfl⟩, hfull⟩ := hc3
          injection ha with ha; injection ha with e1 e2; subst e1; subst e2
          have hlive : Live b (c0 + 1) := ⟨hlow, Nat.le_of_eq hcur⟩
          have hnewpos : 0 < n * z := Nat.mul_pos hn1 hzpos
          by_cases hroom : len + n ≤ cap
          · obtain ⟨⟨b', hb', _, hadr⟩, hcap⟩ := hr (by omega)
            rw [hb] at hb'; obtain rfl := Option.some.inj hb'
            obtain rfl := hadr hlive.1
            obtain ⟨arr, E, fr, hk, hfit⟩ := hcap b hb hlow
            obtain ⟨_, ⟨arr2, E2, fr2, hk2, hfr2⟩, _⟩ := h.own i b hb hown _ hlive
            have hkk := hk
            simp only at hkk
            rw [hkk] at hk2
            injection hk2 with hk2; injection hk2 with q1 q2 q3
            subst q1; subst q2; subst q3
            simp only [Nat.add_zero] at hfit
            rw [hesz] at hfit
            have hmul : (len + n) * z ≤ cap * z := Nat.mul_le_mul_right _ hroom
            rw [Nat.add_mul] at hmul
            have hfit' : (S.e.loc i (c0 + 1)).2 + b.cells.length + new'.length ≤ arr.size := by rw [hnl', ← hfull]; omega
            have hg := Good.growRoom h hb hown hlive hcur hvn hkk hfit'
            have hst := run_storeCells P (S.e.loc i (c0 + 1)).1 ((S.e.loc i (c0 + 1)).2 + 0 + len * z) new' S.w 0 arr E fr hkk hfr2 (by omega) hokn
            rw [show (S.e.loc i (c0 + 1)).2 + 0 + len * z + 0 = (S.e.loc i (c0 + 1)).2 + b.cells.length by omega] at hst
            have hrun2 := run_append_in (ty := ty) h0 h1 a0 a1 hu hxu hz hsw hn1 hroom (by rw [Addr.add_lit]; exact hst)
            refine ⟨_, _, rfl, hrun2, .slice _ _ _ _ _ _ (by omega) (fun q => by omega) (fun _ => ⟨⟨{ b with cells := b.cells ++ new }, ASt.blk?_put_self _ _ _ (by have := h.lt hb; have := h.room; omega), Nat.le_refl _, fun _ => ?_⟩, fun b2 hb2 _ => ?_⟩), hg⟩
            · simp only [true_and, List.length_append]
              rw [if_pos (by rw [hnl]; omega)]
            · rw [ASt.blk?_put_self _ _ _ (by have := h.lt hb; have := h.room; omega)] at hb2
              obtain rfl := Option.some.inj hb2
              obtain ⟨arr', q1, q2, _⟩ := setCells_block new' S.w _ _ arr E fr hkk hfit'
              exact ⟨arr', E, fr, q1, by rw [q2]; simp only [Nat.add_zero]; rw [hesz]; exact hfit⟩
          · have hcells : S.s.cellsAt i 0 (c0 + 1) (len * z) = some b.cells := by
              simp only [ASt.cellsAt, hb]
              rw [if_pos (by simp only [Bool.and_eq_true, Nat.ble_eq, Nat.blt_eq]; exact ⟨⟨hlow, by omega⟩, by omega⟩), takeN_eq, dropN_eq, hfull]
              simp
            obtain ⟨old', hvo, hol, hrun3⟩ := src_ok (P := P) h (VR.slice i 0 len (c0 + 1) a1' cap hle hz0 hr) (src_of_cells h hcells)
            have hol' : old'.length = len * z := by rw [← hvo.1]; exact hol
            have hr3 := run_append_re (ty := ty) h0 h1 a0 a1 hu hxu hz hby hzv hsd hn1 hroom (hrun3 S.w.drew rfl).2 hsmall hbig
            have hge := grownCap_ge S.w (len + n) cap e
            have hsz := row_size (old := old') (new := new') (zv := zv) (z := z) (len := len) (n := n) (cap := grownCap S.w (len + n) cap e) hol' hnl' hzl hge
            have hg := Good.growNew (new := new) (W := S.w.drew.alloc (.cells (old'.toArray ++ new'.toArray ++ Builtin.zeroCells zv.cells (grownCap S.w (len + n) cap e - (len + n))) e)) h hb hown hcur ⟨rfl, rfl, rfl, rfl⟩ (.inl rfl)
              (by rw [hsz, hnl, ← hfull, ← Nat.add_mul]; exact Nat.mul_le_mul_right _ hge) (fun p hp => by
                rw [row_getD p (by rw [hol', hnl', hfull, ← hnl]; exact hp)]
                exact (hvo.append hvn).2 p (by rw [List.length_append]; exact hp))
            refine ⟨_, _, rfl, hr3, .slice _ _ _ _ _ _ hge (fun q => by omega) (fun _ => ⟨⟨{ b with cells := b.cells ++ new }, ASt.blk?_put_self _ _ _ (by have := h.lt hb; have := h.room; omega), Nat.le_refl _, fun _ => ?_⟩, fun b2 hb2 _ => ?_⟩), hg⟩
            · simp only [true_and, List.length_append]
              rw [if_pos (by rw [hnl]; omega)]
            · rw [ASt.blk?_put_self _ _ _ (by have := h.lt hb; have := h.room; omega)] at hb2
              obtain rfl := Option.some.inj hb2
              refine ⟨_, e, (0, 0), heap_alloc_new S.w.drew _, ?_⟩
              simp only
              rw [hsz, hesz, Nat.zero_add]
              exact Nat.le_refl _
        · -- a copy
          split at ha
          case h_2 => cases ha
          rename_i old hcells
          obtain ⟨b2, hb2, hlive, _, _, hol, _⟩ := h.cells hcells
          rw [hb] at hb2; obtain rfl := Option.some.inj hb2
          obtain ⟨old', hvo, _, hrun3⟩ := src_ok (P := P) h (VR.slice i off len (c0 + 1) a1' cap hle hz0 hr) (src_of_cells h hcells)
          have hol' : old'.length = len * z := by rw [← hvo.1]; exact hol
          have hkill := Good.kill h hb
          generalize hS1 : (⟨S.s.put i (.blk (Cl.kill b)), S.e, S.w⟩ : St) = S1 at hkill
          have e1s : S1.s = S.s.put i (.blk (Cl.kill b)) := by rw [← hS1]
          have e1e : S1.e = S.e := by rw [← hS1]
          have e1w : S1.w = S.w := by rw [← hS1]
          have hv1 := (hvo.append hvn).mono hkill.ext
          rw [← e1s] at ha
          by_cases hroom : len + n ≤ cap
          · obtain ⟨⟨b', hb', _, hadr⟩, hcap⟩ := hr (by omega)
            rw [hb] at hb'; obtain rfl := Option.some.inj hb'
            obtain rfl := hadr hlive.1
            obtain ⟨arr, E, fr, hk, hfit⟩ := hcap b hb hlow
            obtain ⟨hbase, ⟨arr2, E2, fr2, hk2, hfr2⟩, hex, _⟩ := h.own i b hb hown _ hlive
            have hkk := hk
            simp only at hkk hfit
            rw [hkk] at hk2
            injection hk2 with hk2; injection hk2 with q1 q2 q3
            subst q1; subst q2; subst q3
            rw [hesz] at hfit
            have hmul : (len + n) * z ≤ cap * z := Nat.mul_le_mul_right _ hroom
            rw [Nat.add_mul] at hmul
            unfold newSlice at ha
            split at ha
            case isFalse => cases ha
            rename_i hrm
            injection ha with ha; injection ha with e1 e2; subst e1; subst e2
            have hne : ∀ j bj c', S1.s.blk? j = some bj → Live bj c' → (S1.e.loc j c').1 ≠ (S.e.loc i (c0 + 1)).1 := by
              intro j bj c' hbj hc' heq
              rw [e1e] at heq
              rw [e1s] at hbj
              by_cases hji : j = i
              · subst hji
                rw [ASt.blk?_put_self _ _ _ (by have := h.lt hb; have := h.room; omega)] at hbj
                obtain rfl := Option.some.inj hbj
                have q1 := hc'.1; have q2 := hc'.2; simp only [Cl.kill] at q1 q2; omega
              · simp only [ASt.blk?, ASt.get_put_ne _ _ _ _ (Ne.symm hji)] at hbj
                exact hji (hex j bj (by simpa [ASt.blk?] using hbj) c' hc' heq)
            have hcl := h.cells hcells
            obtain ⟨b3, hb3, _, _, _, _, hvc, hcc⟩ := hcl
            have hg := Good.reuse hkill.sr hrm (k := (S.e.loc i (c0 + 1)).1) (o := (S.e.loc i (c0 + 1)).2 + off) (arr := arr) (E := E) (fr := fr) (by rw [e1w]; exact hkk) hfr2 hbase hne z (old := old) (new := new) (new' := new') (fun p hp => by
                rw [hol] at hp
                obtain ⟨u, hu'⟩ := hcc p hp
                have := hvc.2 p (by omega)
                rw [conc_getD _ _ _ _ _ hp, hu'] at this
                exact ⟨u, by rw [e1w]; exact hu', this.mono hkill.ext⟩) (hvn.mono hkill.ext) (by rw [hol, hnl']; omega)
            have hst := run_storeCells P (S.e.loc i (c0 + 1)).1 ((S.e.loc i (c0 + 1)).2 + off + len * z) new' S.w 0 arr E fr hkk hfr2 (by rw [hnl']; omega) hokn
            rw [Nat.add_zero] at hst
            have hrun2 := run_append_in (ty := ty) h0 h1 a0 a1 hu hxu hz hsw hn1 hroom (by rw [Addr.add_lit]; exact hst)
            have hlt := room_lt hrm
            have hself : ∀ (bb : Blk), (S1.s.new (.blk bb)).blk? S1.s.next = some bb := fun bb => by simp only [ASt.new, ASt.blk?, Tr.get_set_self _ _ _ _ (deep (show 0 < 16000001 by omega))]
            rw [e1w, hol] at hg
            refine ⟨_, _, rfl, hrun2, .slice _ _ _ _ _ _ hroom (fun q => by omega) (fun _ => ⟨⟨_, hself _, Nat.le_refl _, fun _ => by simp⟩, fun b4 hb4 _ => ?_⟩), hkill.trans hg⟩
            rw [hself] at hb4
            obtain rfl := Option.some.inj hb4
            obtain ⟨arr', q1, q2, _⟩ := setCells_block new' S.w _ ((S.e.loc i (c0 + 1)).2 + off + len * z) arr E fr hkk (by rw [hnl']; omega)
            exact ⟨arr', E, fr, q1, by rw [q2]; exact hfit⟩
          · have hr3 := run_append_re (ty := ty) h0 h1 a0 a1 hu hxu hz hby hzv hsd hn1 hroom (hrun3 S.w.drew rfl).2 hsmall hbig
            have hge := grownCap_ge S.w (len + n) cap e
            have hsz := row_size (old := old') (new := new') (zv := zv) (z := z) (len := len) (n := n) (cap := grownCap S.w (len + n) cap e) hol' hnl' hzl hge
            obtain ⟨T, k1, k2, k3, k4⟩ := newSlice_ok hkill.sr ha (old'.toArray ++ new'.toArray ++ Builtin.zeroCells zv.cells (grownCap S.w (len + n) cap e - (len + n))) e (0, 0)
              (S.w.drew.alloc (.cells (old'.toArray ++ new'.toArray ++ Builtin.zeroCells zv.cells (grownCap S.w (len + n) cap e - (len + n))) e)) (grownCap S.w (len + n) cap e) (by rw [e1w]; exact ⟨rfl, rfl, rfl, rfl⟩) (.inl rfl)
              (by rw [hsz, List.length_append, hol, hnl, ← Nat.add_mul]; exact Nat.mul_le_mul_right _ hge) (fun p hp => by
                rw [List.length_append] at hp
                rw [row_getD p (by rw [hol', hnl', ← hol, ← hnl]; exact hp)]
                exact hv1.2 p (by rw [List.length_append]; exact hp)) hge (by rw [hsz]; exact Nat.le_refl _)
            rw [e1w] at k3
            exact ⟨T, _, k1, by rw [k2]; exact hr3, k3, hkill.trans k4⟩
    · cases ha

end Go.Cl
