/-
  LZW, reading: the reference's LzwDecode: bits, its sink, what holds between two codes, the walk.
-/
import Derived.Test.YtoddiggebjbnnaaLzwV
import Derived.Test.YtoddiggebjbnnaaLzwQ
import Derived.Test.YtoddiggebjbnnaaLooseA
import Derived.Test.YtoddiggebjbnnaaSink
import Derived.Test.YtoddiggebjbnnaaLzwX
import Derived.Test.YtoddiggebjbnnaaLzwE
import Derived.Test.YtoddiggebjbnnaaCopy
set_option linter.unusedSimpArgs false
set_option linter.unusedVariables false
namespace Go.Cl
theorem lowV_elemPtr {s : ASt} {z : Nat} {v : Value} {n : Nat} {l : List Value} (h : Sees s z v n l) {b : Nat} (hb : s.next ≤ b) {k : Nat} (hk : k < n) : lowV b (some (elemPtr z v k)) = true := by
  cases h with
  | nil => omega
  | bare => omega
  | of i off n c bl l hi hbb hz hl hc hlen hoff ht => simp only [elemPtr, lowV, Nat.blt_eq]; omega
theorem LA.lowV_elemPtr {A : Nat → Bool} {s : ASt} {z : Nat} {v : Value} {n : Nat} {l : List Value} (h : Sees s z v n l) (hA : ∀ i, idOf v = some i → A i = true) {k : Nat} (hk : k < n) : LA.lowV A (some (elemPtr z v k)) = true := by
  cases h with
  | nil => omega
  | bare => omega
  | of i off n c bl l hi hbb hz hl hc hlen hoff ht => simp only [elemPtr, LA.lowV]; exact hA i rfl
theorem Sees.turnsNe {s s' : ASt} {z : Nat} {v u : Value} {n : Nat} {l : List Value} (h : Sees s z v n l) (k : Turns u s s') (hne : ∀ i, idOf u = some i → idOf v ≠ some i) : Sees s' z v n l := by
  cases h with
  | nil => exact .nil
  | bare i off => exact .bare i off
  | of i off n c b l hi hb hz hl hc hlen hoff ht =>
    refine .of i off n c b l (Nat.lt_of_lt_of_le hi k.next) ?_ hz hl hc hlen hoff ht
    simp only [ASt.blk?, k.get i hi (fun e => hne i e rfl)]; exact hb
end Go.Cl
namespace Go.Proofs.Ytoddiggebjbnnaa
open Go.Cl Go.Cl.Lz Go.Cl.Rw
set_option maxRecDepth 100000 in
set_option maxHeartbeats 8000000 in
theorem rhigh_any {lib : Prims} (hl : lib.at 21 = none) (s : ASt) (x : Value) (b : List UInt8) (p w : Nat) (hx : Sees s 1 x b.length (ofBytes b)) (hb : b.length ≤ 1000000) (hp : p ≤ 8 * b.length) (hw : w ≤ 16) :
    Runs Try.prog lib 21 [x, .int .i64 p, .int .i64 w] s fun v s' => v = .int .i64 (if 8 * b.length < p + w then (-1 : Int) else ((hbits b p w : Nat) : Int)) ∧ s' = s := by
  refine Runs.enter 40 Try.func21 rfl hl rfl rfl ?_
  intro f hn hf
  have h0 : f.get 0 = x := hf 0
  have h1 : f.get 1 = .int .i64 p := hf 1
  have h2 : f.get 2 = .int .i64 w := hf 2
  clear hf
  by_cases c1 : 8 * b.length < p + w
  · have c1' : 8 * (b.length : Int) < (p : Int) + (w : Int) := by omega
    simp (config := { maxSteps := 1000000, implicitDefEqProofs := false }) (disch := omega) only [wcode_region, wcode_seq, wthen_normal, wthen_ret, wcode_cond, wcond_bool, wif_true, wcode_ret, wops_nil, wops_cons, wwant_true, wstep_val, wfn_ret, wres_some, resultsA_nil, resultsA_tmp, oneOf, aop_move, aop_assign, aop_binOp, aop_call_builtin, wanted_none, get_put, n_put, evalA_tmp, evalA_int, evalAll, vOf_some, builtin_len, bin_add, bin_mul, bin_gtr, Nat.reduceLT, Nat.reduceEqDiff, ↓reduceIte, and_true, decide_true, eq_self, hn, h0, h1, h2, hx.lenA Try.underlying23, wrapI, eq_true c1', Try.results21]
    rw [if_pos c1]
  · have c1' : ¬ 8 * (b.length : Int) < (p : Int) + (w : Int) := by omega
    rw [if_neg c1]
    simp (config := { maxSteps := 1000000, implicitDefEqProofs := false }) (disch := omega) only [wcode_skip, wcode_region, wcode_seq, wthen_normal, wcode_cond, wcond_bool, wif_false, wcode_block, wcode_loop, wops_nil, wops_cons, wwant_true, wstep_val, aop_move, aop_assign, aop_binOp, aop_call_builtin, wanted_none, get_put, n_put, evalA_tmp, evalA_int, evalAll, vOf_some, builtin_len, bin_add, bin_mul, bin_gtr, Nat.reduceLT, Nat.reduceEqDiff, ↓reduceIte, decide_false, eq_self, hn, h0, h1, h2, hx.lenA Try.underlying23, wrapI, eq_false c1']
    refine Comes.loopOut (fun z f s' => ∃ (k : Nat), z = w - k ∧ k ≤ w ∧ s' = s ∧ f.n = 40 ∧ f.get 0 = x ∧ f.get 1 = .int .i64 p ∧ f.get 2 = .int .i64 w ∧ f.get 7 = .int .i64 (hbits b p k : Nat) ∧ f.get 8 = .int .i64 ((p + k : Nat) : Int))
      (fun y f s' => y = .exit 0 ∧ s' = s ∧ f.n = 40 ∧ f.get 7 = .int .i64 (hbits b p w : Nat))
      ⟨0, rfl, by omega, rfl, by simp only [n_put, hn], by simp only [get_put, ↓reduceIte, Nat.reduceEqDiff, h0], by simp only [get_put, ↓reduceIte, Nat.reduceEqDiff, h1], by simp only [get_put, ↓reduceIte, Nat.reduceEqDiff, h2], by simp only [get_put, ↓reduceIte, Nat.reduceEqDiff]; rfl, by simp only [get_put, ↓reduceIte]; rfl⟩ ?_ ?_
    · clear hn h0 h1 h2 f
      rintro Q hQ z f s2 ⟨k, rfl, hk, hs2, hn, h0, h1, h2, h7, h8⟩
      subst hs2
      by_cases hkw : k < w
      · have c2 : ((p + k : Nat) : Int) < (p : Int) + (w : Int) := by omega
        have hi : (p + k) / 8 < b.length := by omega
        have hidx := hx.indexAddr (k := .i64) (x := (((p + k) / 8 : Nat) : Int)) Try.underlying23 szU8 (by omega) (by omega)
        rw [Int.toNat_natCast] at hidx
        have hld := hx.load1 (P := Try.prog) agU8 hi
        rw [ofBytes_getD hi] at hld
        have hm : (p + k) % 8 < 8 := Nat.mod_lt _ (by omega)
        have e7 : (7 : Int) - (((p + k) % 8 : Nat) : Int) = ((7 - (p + k) % 8 : Nat) : Int) := by omega
        have h77 : 7 - (p + k) % 8 < 8 := by omega
        obtain ⟨y, hy⟩ : ∃ y, y = (b.getD ((p + k) / 8) 0).toNat := ⟨_, rfl⟩
        have hy2 : y < 256 := by rw [hy]; exact (b.getD ((p + k) / 8) 0).toNat_lt
        rw [← hy] at hld
        have hdiv : y / 2 ^ (7 - (p + k) % 8) < 256 := Nat.lt_of_le_of_lt (Nat.div_le_self _ _) hy2
        have hbit : y / 2 ^ (7 - (p + k) % 8) % 2 = bitAt b (p + k) := by rw [hy]; rfl
        have hbl := bitAt_lt b (p + k)
        have hhl := hbits_lt b p k
        have hh16 : 2 ^ k ≤ 2 ^ 16 := Nat.pow_le_pow_right (by omega) (by omega)
        have hor := or_bit (n := hbits b p k) (d := bitAt b (p + k)) (by omega) hbl
        have hand := and1u8 _ hdiv
        rw [hbit] at hand
        have hcv : IntKind.i64.wrap ((bitAt b (p + k) : Nat) : Int) = ((bitAt b (p + k) : Nat) : Int) := wrapI (by omega)
        have hrec : hbits b p k * 2 + bitAt b (p + k) = hbits b p (k + 1) := rfl
        rw [hrec] at hor
        simp (config := { maxSteps := 1000000, implicitDefEqProofs := false }) (disch := omega) only [wcode_skip, wcode_region, wcode_seq, wthen_normal, wcode_cond, wcond_bool, wif_true, wcode_block, wblk_normal, wops_nil, wops_cons, wwant_true, wstep_val, aop_move, aop_assign, aop_load, aop_binOp, aop_convert, aop_indexAddr, wanted_none, get_put, n_put, evalA_tmp, evalA_int, vOf_some, pOf_some, bin_add, bin_sub, bin_lss, Nat.reduceLT, Nat.reduceEqDiff, ↓reduceIte, decide_true, eq_self, hn, h0, h1, h2, h7, h8, eq_true c2, quo8, rem8, bin_quo, bin_rem, shl1, hidx, hld, e7, conv_int Try.underlying3 Try.underlying34, wrapu64x, shr8, bin_and, hand, conv_int Try.underlying5 Try.underlying3, hcv, bin_or, hor, wrapI]
        refine wround_next (w - (k + 1)) (by omega) ⟨k + 1, rfl, by omega, rfl, by simp only [n_put, hn], by simp only [get_put, ↓reduceIte, Nat.reduceEqDiff, h0], by simp only [get_put, ↓reduceIte, Nat.reduceEqDiff, h1], by simp only [get_put, ↓reduceIte, Nat.reduceEqDiff, h2], by simp only [get_put, ↓reduceIte, Nat.reduceEqDiff], by simp only [get_put, ↓reduceIte]; rfl⟩
      · obtain rfl : k = w := by omega
        have c2 : ¬ ((p + k : Nat) : Int) < (p : Int) + (k : Int) := by omega
        simp (config := { maxSteps := 1000000, implicitDefEqProofs := false }) (disch := omega) only [wcode_region, wcode_seq, wthen_normal, wthen_exit, wcode_cond, wcond_bool, wif_false, wcode_exit, wops_nil, wops_cons, wwant_true, wstep_val, wround_exit, aop_move, aop_binOp, wanted_none, get_put, n_put, evalA_tmp, vOf_some, bin_add, bin_lss, Nat.reduceLT, Nat.reduceEqDiff, ↓reduceIte, decide_false, eq_self, hn, h1, h2, h8, wrapI, eq_false c2]
        exact hQ _ _ _ ⟨rfl, rfl, by simp only [n_put, hn], by simp only [get_put, ↓reduceIte, Nat.reduceEqDiff, h7]⟩
    · clear hn h0 h1 h2 f
      rintro _ f s2 ⟨rfl, hs2, hn, h7⟩
      subst hs2
      simp (config := { maxSteps := 1000000, implicitDefEqProofs := false }) (disch := omega) only [wcode_region, wcode_seq, wthen_normal, wblk_exit, wcode_ret, wops_nil, wops_cons, wwant_true, wstep_val, wfn_ret, wres_some, resultsA_nil, resultsA_tmp, oneOf, aop_move, aop_assign, wanted_none, get_put, n_put, evalA_tmp, vOf_some, Nat.reduceLT, ↓reduceIte, and_self, eq_self, hn, h7, Try.results21]
/-- A sink, its bytes' slice named. -/
structure SinkAt (base : Nat) (s : ASt) (i : Nat) (B : Value) (l : List UInt8) (most bad : Int) : Prop where
  t : Thing s i [B, .int .i64 most, .int .i64 bad]
  o : Own s 1 B l.length (ofBytes l)
  f : Fresh base B
  ne : idOf B ≠ some i
  lo : base ≤ i
theorem SinkAt.is {base : Nat} {s : ASt} {i : Nat} {B : Value} {l : List UInt8} {most bad : Int} (h : SinkAt base s i B l most bad) : SinkIs base s i l most bad := ⟨B, h.t, h.o, h.f, h.ne, h.lo⟩
theorem rfail_any {lib : Prims} (hl : lib.at 22 = none) (base : Nat) (s : ASt) (i : Nat) (B : Value) (l : List UInt8) (most e : Int) (hs : SinkAt base s i B l most 0) :
    Runs Try.prog lib 22 [.pointer (some ⟨i, 0, some 4⟩), .int .i64 e] s fun v s' => SinkAt base s' i B l most e ∧ RowTo i B s B s' := by
  refine Runs.enter 13 Try.func22 rfl hl rfl rfl ?_
  intro f hn hf
  have h0 : f.get 0 = .pointer (some ⟨i, 0, some 4⟩) := hf 0
  have h1 : f.get 1 = .int .i64 e := hf 1
  clear hf
  have l2 := hs.t.load (P := Try.prog) agInt (off := 2) (c := 4) rfl (by simp)
  simp only [wcode_region, wcode_seq, wthen_normal, wcode_cond, wcond_bool, wif_true, wops_nil, wops_cons, wwant_true, wstep_val, aop_move, aop_load, aop_store, aop_nilCheck, aop_binOp, aop_fieldAddr, wanted_none, get_put, n_put, evalA_tmp, evalA_int, vOf_some, bin_eql, Nat.reduceLT, Nat.reduceEqDiff, Nat.zero_add, List.getD_cons_zero, List.getD_cons_succ, ↓reduceIte, decide_true, eq_self, hn, h0, h1, fld2, l2]
  refine wstep_store szInt hs.t rfl (by simp) rfl ?_
  intro s' ho' hn' hst
  simp only [wops_nil, wstep_val_none, wfn_normal, wres_some, resultsA_nil, Try.results22]
  exact ⟨⟨ho', hs.o.ofPut hn' hst hs.ne, hs.f, hs.ne, hs.lo⟩, RowTo.put hn' hst⟩
theorem rput_any {lib : Prims} (hl : lib.at 24 = none) (base : Nat) (s : ASt) (i : Nat) (B : Value) (l : List UInt8) (most bad : Int) (c : UInt8) (hs : SinkAt base s i B l most bad) (hlen : l.length < 4294967295) :
    Runs Try.prog lib 24 [.pointer (some ⟨i, 0, some 4⟩), .int .u8 c.toNat] s fun v s' => ∃ B', SinkAt base s' i B' (if bad = 0 ∧ (l.length : Int) < most then l ++ [c] else l) most (if bad = 0 ∧ most ≤ l.length then 7 else bad) ∧ RowTo i B s B' s' := by
  obtain ⟨ho, hB, hF, hne, hi⟩ := hs
  refine Runs.enter 39 Try.func24 rfl hl rfl rfl ?_
  intro f hn hf
  have h0 : f.get 0 = .pointer (some ⟨i, 0, some 4⟩) := hf 0
  have h1 : f.get 1 = .int .u8 c.toNat := hf 1
  clear hf
  have l2 := ho.load (P := Try.prog) agInt (off := 2) (c := 4) rfl (by simp)
  have l1 := ho.load (P := Try.prog) agInt (off := 1) (c := 4) rfl (by simp)
  have l0 := ho.load (P := Try.prog) agSl (off := 0) (c := 4) rfl (by simp)
  have hBs := hB.sees
  by_cases hb : bad = 0
  · subst hb
    by_cases hm : most ≤ l.length
    · have hm2 : ¬ (l.length : Int) < most := by omega
      simp only [wcode_region, wcode_draw, wdraw_true, wcode_seq, wthen_normal, wcode_cond, wcond_bool, wif_true, wops_cons, wwant_true, wstep_val, wquiet_nil, wquiet_cons, wasks_true, wlook_val, aop_move, aop_pick, aop_load, aop_store, aop_nilCheck, aop_binOp, aop_fieldAddr, aop_call_builtin, wanted_none, wanted_some, yieldA_eq, yieldOf_cons, get_put, n_put, evalA_tmp, evalA_bool, evalA_int, evalAll, vOf_some, builtin_len, bin_eql, bin_geq, valEq_bool, valEq_int, valEq_pointer, allQuiet_nil, allQuiet_cons, quiet_move, quiet_pick, quiet_load, quiet_binOp, quiet_len, quiet_fieldAddr, quiet_nilCheck, List.drop_zero, List.drop_succ_cons, Nat.reduceLT, Nat.reduceEqDiff, Nat.zero_add, List.getD_cons_zero, List.getD_cons_succ, ↓reduceIte, true_and, and_self, Bool.and_true, decide_true, beq_self_eq_true, eq_self, hn, h0, fld2, l2, fld1, l1, fld0, l0, hBs.lenA Try.underlying23, hBs.self, hm]
      refine wstep_store szInt ho rfl (by simp) rfl ?_
      intro s' ho' hn' hst
      have l2' := ho'.load (P := Try.prog) agInt (off := 2) (c := 4) rfl (by simp)
      simp only [wcode_skip, wcode_region, wcode_seq, wthen_normal, wcode_cond, wcond_bool, wif_false, wops_nil, wops_cons, wwant_true, wstep_val, wstep_val_none, wfn_normal, wres_some, resultsA_nil, aop_move, aop_load, aop_nilCheck, aop_binOp, aop_fieldAddr, wanted_none, get_put, n_put, evalA_tmp, evalA_int, vOf_some, bin_eql, Nat.reduceLT, Nat.reduceEqDiff, Nat.zero_add, List.getD_cons_zero, List.getD_cons_succ, List.set_cons_zero, List.set_cons_succ, ↓reduceIte, decide_false, eq_self, hn, h0, fld2, l2', hm2, Try.results24, show ¬ (7 : Int) = 0 by decide]
      exact ⟨B, ⟨ho', hB.ofPut hn' hst hne, hF, hne, hi⟩, RowTo.put hn' hst⟩
    · have hm2 : (l.length : Int) < most := by omega
      simp only [wcode_skip, wcode_region, wcode_draw, wdraw_true, wcode_seq, wthen_normal, wcode_cond, wcond_bool, wif_true, wif_false, wops_nil, wops_cons, wwant_true, wstep_val, wquiet_nil, wquiet_cons, wasks_true, wlook_val, aop_move, aop_pick, aop_buildSlice, aop_load, aop_nilCheck, aop_binOp, aop_fieldAddr, aop_call_builtin, wanted_none, wanted_some, yieldA_eq, yieldOf_cons, get_put, n_put, evalA_tmp, evalA_bool, evalA_int, evalAll, partsA, vOf_some, builtin_len, bin_eql, bin_geq, valEq_bool, valEq_int, valEq_pointer, allQuiet_nil, allQuiet_cons, quiet_move, quiet_pick, quiet_load, quiet_binOp, quiet_len, quiet_fieldAddr, quiet_nilCheck, List.drop_zero, List.drop_succ_cons, Nat.reduceLT, Nat.reduceEqDiff, Nat.zero_add, List.getD_cons_zero, List.getD_cons_succ, ↓reduceIte, true_and, and_self, Bool.and_true, decide_true, decide_false, beq_self_eq_true, eq_self, hn, h0, h1, fld2, l2, fld1, l1, fld0, l0, hBs.lenA Try.underlying23, hBs.self, hm, build1 Try.underlying23 szU8 zU8]
      refine wstep_append_lit Try.underlying23 szU8 byU8 zU8 rfl hB (by simp only [get_put, ↓reduceIte, Nat.reduceEqDiff]) (by decide) (by simp only [n_put, hn]; decide) (by simp only [n_put, hn]; decide) (by rfl) (by decide) rfl (by omega) (by omega) (base := base) hF (by have := ho.lt; omega) ?_
      intro bs B' s2 hB' hF' hst' ht' hid'
      have ho2 := ho.turns ht' hne
      simp only [wops_cons, wwant_true, wstep_val, aop_store, aop_nilCheck, aop_fieldAddr, wanted_none, get_put, n_put, evalA_tmp, vOf_some, Nat.reduceLT, Nat.reduceEqDiff, Nat.zero_add, ↓reduceIte, eq_self, hn, fld0]
      have hne' : idOf B' ≠ some i := by
        rcases hid' with e | ⟨j, e, hj⟩
        · rw [e]; exact hne
        · rw [e]; intro q; injection q with q; have := ho.lt; omega
      refine wstep_store szSl ho2 rfl (by simp) hB'.sees.okCell ?_
      intro s3 ho3 hn3 hst3
      simp only [wops_nil, wstep_val_none, wfn_normal, wres_some, resultsA_nil, ↓reduceIte, hm2, Try.results24]
      refine ⟨B', ⟨ho3, ?_, hF', hne', hi⟩, (RowTo.turns ht' hid').trans (RowTo.put hn3 hst3)⟩
      rw [ofBytes_append, List.length_append]
      exact hB'.ofPut hn3 hst3 hne'
  · simp only [wcode_skip, wcode_region, wcode_draw, wdraw_true, wcode_seq, wthen_normal, wcode_cond, wcond_bool, wif_false, wops_nil, wops_cons, wwant_true, wstep_val, wquiet_nil, wquiet_cons, wasks_true, wasks_false_some, wlook_val, wfn_normal, wres_some, resultsA_nil, aop_move, aop_pick, aop_load, aop_nilCheck, aop_binOp, aop_fieldAddr, wanted_none, wanted_some, yieldA_eq, yieldOf_cons, get_put, n_put, evalA_tmp, evalA_bool, evalA_int, vOf_some, bin_eql, valEq_bool, valEq_int, valEq_pointer, allQuiet_nil, allQuiet_cons, quiet_move, quiet_pick, quiet_load, quiet_binOp, quiet_len, quiet_fieldAddr, quiet_nilCheck, List.drop_zero, List.drop_succ_cons, Nat.reduceLT, Nat.reduceEqDiff, Nat.zero_add, List.getD_cons_zero, List.getD_cons_succ, ↓reduceIte, and_self, Bool.and_true, decide_false, Bool.false_eq_true, beq_true, eq_self, hn, h0, fld2, l2, hb, Try.results24]
    exact ⟨B, ⟨ho, hB, hF, hne, hi⟩, RowTo.refl _ _ _⟩
/-- Bytes that neither the sink nor the table turns. -/
structure Ent (s : ASt) (i : Nat) (B tv v : Value) (l : List UInt8) : Prop where
  see : Sees s 1 v l.length (ofBytes l)
  ni : idOf v ≠ some i
  nb : ∀ k, idOf B = some k → idOf v ≠ some k
  nt : ∀ k, idOf tv = some k → idOf v ≠ some k
theorem idlt_sees {s : ASt} {z : Nat} {v : Value} {n : Nat} {l : List Value} (h : Sees s z v n l) (hn : 0 < n) : ∀ k, idOf v = some k → k < s.next := by
  intro k hk
  cases h with
  | nil => omega
  | bare => omega
  | of i off n c b l hi hb hz hl hc hlen hoff ht => injection hk with hk; subst hk; exact hi
theorem Ent.sink {s s' : ASt} {i : Nat} {B B' tv v : Value} {l : List UInt8} (h : Ent s i B tv v l) (hl : l ≠ []) (k : RowTo i B s B' s') : Ent s' i B' tv v l := by
  have hpos : 0 < l.length := List.length_pos_iff.mpr hl
  have hlt := idlt_sees h.see hpos
  refine ⟨?_, h.ni, fun q hq => ?_, h.nt⟩
  · have hs := h.see
    generalize hL : ofBytes l = M at hs
    generalize hN : l.length = N at hs
    have h1 := h.ni
    have h2 := h.nb
    cases hs with
    | nil => exact .nil
    | bare i off => exact .bare i off
    | of j off n c b m hi hb hz hl hc hlen hoff ht =>
      refine .of j off _ c b _ (Nat.lt_of_lt_of_le hi k.next) ?_ hz hl hc hlen hoff ht
      simp only [ASt.blk?, k.get j hi (fun e => h1 (by rw [← e]; rfl)) (fun e => h2 j e rfl)]; exact hb
  · rcases k.id with e | ⟨w, e, hw⟩
    · rw [e] at hq; exact h.nb q hq
    · rw [e] at hq; injection hq with hq; subst hq
      intro r; have := hlt _ r; omega
theorem Ent.tab {s s1 s' : ASt} {i : Nat} {B tv tv' v : Value} {l : List UInt8} (h : Ent s i B tv v l) (hl : l ≠ []) (k1 : Stay s.next s s1) (k : Turns tv s1 s') (hid : idOf tv' = idOf tv ∨ ∃ q, idOf tv' = some q ∧ s1.next ≤ q) : Ent s' i B tv' v l := by
  have hpos : 0 < l.length := List.length_pos_iff.mpr hl
  have hlt := idlt_sees h.see hpos
  refine ⟨(h.see.keeps k1).turnsNe k h.nt, h.ni, h.nb, fun q hq => ?_⟩
  rcases hid with e | ⟨w, e, hw⟩
  · rw [e] at hq; exact h.nt q hq
  · rw [e] at hq; injection hq with hq; subst hq
    intro r; have := hlt _ r; have := k1.next; omega
theorem Ent.stay {s s' : ASt} {i : Nat} {B tv v : Value} {l : List UInt8} (h : Ent s i B tv v l) (k : Stay s.next s s') : Ent s' i B tv v l := ⟨h.see.keeps k, h.ni, h.nb, h.nt⟩
end Go.Proofs.Ytoddiggebjbnnaa

namespace Go.Cl
open Go.Cl.Rw
theorem isNilS_nil : isNilS (.slice none 0 0) = true := rfl
theorem Sees.notNil {s : ASt} {z : Nat} {v : Value} {n : Nat} {l : List Value} (h : Sees s z v n l) (hn : 0 < n) : isNilS v = false := by
  cases h with
  | nil => omega
  | bare => omega
  | of => rfl
theorem Own.rowto {s s' : ASt} {z : Nat} {u : Value} {n : Nat} {l : List Value} {j : Nat} {v v' : Value} (h : Own s z u n l) (k : RowTo j v s v' s') (h1 : idOf u ≠ some j) (h2 : ∀ i, idOf v = some i → idOf u ≠ some i) : Own s' z u n l := by
  cases h with
  | nil => exact .nil
  | of i n low l hi hb hl hlen =>
    refine .of i _ low _ (Nat.lt_of_lt_of_le hi k.next) ?_ hl hlen
    simp only [ASt.blk?, k.get i hi (fun e => h1 (by rw [← e]; rfl)) (fun e => h2 i e rfl)]; exact hb
theorem vs_left {vs : List Value} {w : Value} {k : Nat} (h : k < vs.length) : (vs ++ [w]).getD k undef = vs.getD k undef := by
  rw [List.getD_eq_getElem?_getD, List.getD_eq_getElem?_getD, List.getElem?_append_left h]
theorem vs_right {vs : List Value} {w : Value} : (vs ++ [w]).getD vs.length undef = w := by
  rw [List.getD_eq_getElem?_getD, List.getElem?_append_right (Nat.le_refl _), Nat.sub_self]; rfl
/-- What comes behind is asked once, whatever way out is taken. -/
theorem wif_cut2 {P : Program} {lib : Prims} {cA cB : Code} {f : AFr} {s : ASt} {Q : AX → AFr → ASt → Prop} {b : Bool} (J : AX → AFr → ASt → Prop) (h1 : ∀ Q' : AX → AFr → ASt → Prop, (∀ y f' s', J y f' s' → Q' y f' s') → wif P lib cA cB f s Q' b) (h2 : ∀ y f' s', J y f' s' → Q y f' s') : wif P lib cA cB f s Q b := h1 Q h2
end Go.Cl
namespace Go.Proofs.Ytoddiggebjbnnaa
open Go.Cl Go.Cl.Lz Go.Cl.Rw
theorem bySl : bytesB Try.prog 23 = some 24 := by kernel_rfl
theorem SinkAt.stay {base : Nat} {s s' : ASt} {i : Nat} {B : Value} {l : List UInt8} {most bad : Int} (h : SinkAt base s i B l most bad) (k : Stay s.next s s') : SinkAt base s' i B l most bad := ⟨h.t.keeps k, h.o.keeps k, h.f, h.ne, h.lo⟩
structure RDec (base : Nat) (s : ASt) (i : Nat) (B tv lv : Value) (T : List (List UInt8)) (L out : List UInt8) (M bad : Int) (vs : List Value) : Prop where
  sink : SinkAt base s i B out M bad
  tab : Own s 1 tv T.length vs
  ents : ∀ k r, T[k]? = some r → r ≠ [] ∧ Ent s i B tv (vs.getD k undef) r
  tf : Fresh base tv
  tn : idOf tv ≠ some i
  tb : ∀ k, idOf B = some k → idOf tv ≠ some k
  last : (L = [] ∧ lv = .slice none 0 0) ∨ (L ≠ [] ∧ Ent s i B tv lv L)
section
variable {base : Nat} {s s' : ASt} {i : Nat} {B B' tv lv : Value} {T : List (List UInt8)} {L out out' : List UInt8} {M bad bad' : Int} {vs : List Value}
theorem RDec.sunk (h : RDec base s i B tv lv T L out M bad vs) (k : RowTo i B s B' s') (hs : SinkAt base s' i B' out' M bad') : RDec base s' i B' tv lv T L out' M bad' vs := by
  refine ⟨hs, h.tab.rowto k h.tn (fun j hj => h.tb j hj), fun q r hr => ⟨(h.ents q r hr).1, (h.ents q r hr).2.sink (h.ents q r hr).1 k⟩, h.tf, h.tn, fun q hq => ?_, ?_⟩
  · rcases k.id with e | ⟨w, e, hw⟩
    · rw [e] at hq; exact h.tb q hq
    · rw [e] at hq; injection hq with hq; subst hq
      intro r; have := h.tab.idlt _ r; omega
  · rcases h.last with e | ⟨e1, e2⟩
    · exact .inl e
    · exact .inr ⟨e1, e2.sink e1 k⟩
theorem RDec.stay (h : RDec base s i B tv lv T L out M bad vs) (k : Stay s.next s s') : RDec base s' i B tv lv T L out M bad vs := by
  refine ⟨h.sink.stay k, h.tab.keeps k, fun q r hr => ⟨(h.ents q r hr).1, (h.ents q r hr).2.stay k⟩, h.tf, h.tn, h.tb, ?_⟩
  rcases h.last with e | ⟨e1, e2⟩
  · exact .inl e
  · exact .inr ⟨e1, e2.stay k⟩
theorem RDec.cleared (h : RDec base s i B tv lv T L out M bad vs) : RDec base s i B (.slice none 0 0) (.slice none 0 0) [] [] out M bad [] :=
  ⟨h.sink, .nil, fun q r hr => by simp at hr, Fresh.nil _, (fun e => by cases e), (fun k _ e => by cases e), .inl ⟨rfl, rfl⟩⟩
theorem RDec.lasted {xv : Value} {X : List UInt8} (h : RDec base s i B tv lv T L out M bad vs) (hX : X ≠ []) (he : Ent s i B tv xv X) : RDec base s i B tv xv T X out M bad vs :=
  ⟨h.sink, h.tab, h.ents, h.tf, h.tn, h.tb, .inr ⟨hX, he⟩⟩
theorem RDec.tabbed {s1 : ASt} {tv' w : Value} {r : List UInt8} (h : RDec base s i B tv lv T L out M bad vs) (h1 : Stay s.next s s1) (ho : Own s' 1 tv' (T.length + 1) (vs ++ [w])) (hf : Fresh base tv') (ht : Turns tv s1 s') (hid : idOf tv' = idOf tv ∨ ∃ q, idOf tv' = some q ∧ s1.next ≤ q)
    (hr : r ≠ []) (hw : Ent s' i B tv' w r) : RDec base s' i B tv' lv (T ++ [r]) L out M bad (vs ++ [w]) := by
  have hvl : vs.length = T.length := by have := h.tab.sees.length; omega
  have hs1 := h.sink.stay h1
  refine ⟨⟨hs1.t.turns ht h.tn, hs1.o.turns ht (fun q hq => h.tb q hq), hs1.f, hs1.ne, hs1.lo⟩, by rw [List.length_append]; exact ho, fun q r' hr' => ?_, hf, ?_, fun q hq => ?_, ?_⟩
  · by_cases hq : q < T.length
    · rw [List.getElem?_append_left hq] at hr'
      rw [vs_left (by omega)]
      exact ⟨(h.ents q r' hr').1, (h.ents q r' hr').2.tab (h.ents q r' hr').1 h1 ht hid⟩
    · rw [List.getElem?_append_right (by omega)] at hr'
      cases hj : q - T.length with
      | succ m => rw [hj] at hr'; simp at hr'
      | zero =>
        rw [hj] at hr'
        simp at hr'
        subst hr'
        rw [show q = vs.length by omega, vs_right]
        exact ⟨hr, hw⟩
  · rcases hid with e | ⟨q, e, hq⟩
    · rw [e]; exact h.tn
    · rw [e]; intro j; injection j with j; have := h.sink.t.lt; have := h1.next; omega
  · rcases hid with e | ⟨j, e, hj⟩
    · rw [e]; exact h.tb q hq
    · rw [e]; intro n; injection n with n; have := h.sink.o.idlt _ hq; have := h1.next; omega
  · rcases h.last with e | ⟨e1, e2⟩
    · exact .inl e
    · exact .inr ⟨e1, e2.tab e1 h1 ht hid⟩
end
/-- A new slice of one's own, beside all. -/
theorem Ent.new {s s' : ASt} {i : Nat} {B tv v : Value} {l : List UInt8} (h : Sees s' 1 v l.length (ofBytes l)) (hi : i < s.next) (hB : ∀ k, idOf B = some k → k < s.next) (ht : ∀ k, idOf tv = some k → k < s.next) (hF : ∀ k, idOf v = some k → s.next ≤ k) : Ent s' i B tv v l :=
  ⟨h, fun e => by have := hF _ e; omega, fun k hk e => by have := hF _ e; have := hB _ hk; omega, fun k hk e => by have := hF _ e; have := ht _ hk; omega⟩
def RInv (base : Nat) (s : ASt) (i : Nat) (x : Value) (b : List UInt8) (mo : Nat) (R : Nat × List UInt8) (z : Nat) (f : AFr) (s' : ASt) : Prop :=
  f.n = 124 ∧ f.get 0 = x ∧ f.get 6 = .pointer (some ⟨i, 0, some 4⟩) ∧ Stay base s s' ∧ ((∃ (B : Value) (out : List UInt8) (bad : Nat), bad ≠ 0 ∧ SinkAt base s' i B out mo bad ∧ R = (bad, [])) ∨
    (∃ (p m : Nat) (T : List (List UInt8)) (L out : List UInt8) (B tv lv : Value) (vs : List Value), RDec base s' i B tv lv T L out mo 0 vs ∧ out.length ≤ mo ∧ T.length ≤ 3838 ∧ Short m T L out ∧ 9 * m ≤ p ∧ p ≤ 8 * b.length ∧ 8 * b.length < p + z ∧ dec b mo z p T L out = R ∧ f.get 7 = tv ∧ f.get 8 = lv ∧ f.get 9 = .int .i64 ((258 + T.length : Nat) : Int) ∧ f.get 10 = .int .i64 (p : Nat)))
def RCut (base : Nat) (s : ASt) (i : Nat) (x B tv lv : Value) (T : List (List UInt8)) (L out : List UInt8) (mo : Nat) (vs : List Value) (p c : Nat) (y : AX) (f : AFr) (s' : ASt) : Prop :=
  f.n = 124 ∧ f.get 0 = x ∧ f.get 6 = .pointer (some ⟨i, 0, some 4⟩) ∧ f.get 7 = tv ∧ f.get 8 = lv ∧ f.get 9 = .int .i64 ((258 + T.length : Nat) : Int) ∧ f.get 10 = .int .i64 (p : Nat) ∧ Stay base s s' ∧
    ((y = .exit 1 ∧ rowOf T L c = none ∧ SinkAt base s' i B out mo 4) ∨
     (y = .normal ∧ ∃ (X : List UInt8) (xv : Value), rowOf T L c = some X ∧ X ≠ [] ∧ RDec base s' i B tv lv T L out mo 0 vs ∧ Ent s' i B tv xv X ∧ f.get 13 = xv))
theorem dxtrA (a b : Value) : extractA (.tuple #[a, b]) 0 = some a := rfl
theorem dxtrB (a b : Value) : extractA (.tuple #[a, b]) 1 = some b := rfl
end Go.Proofs.Ytoddiggebjbnnaa

namespace Go.Proofs.Ytoddiggebjbnnaa
open Go.Cl Go.Cl.Lz Go.Cl.Rw
set_option maxRecDepth 100000 in
set_option maxHeartbeats 16000000 in
theorem rdecode_any {lib : Prims} (hl : lib.at 12 = none) (hlw : lib.at 20 = none) (hlh : lib.at 21 = none) (hlc : lib.at 14 = none) (hlf : lib.at 22 = none) (hlo : lib.at 23 = none) (hlp : lib.at 24 = none)
    (s : ASt) (x : Value) (b : List UInt8) (most : Int) (mo : Nat) (hMM : (if most < 0 then 0 else most) = (mo : Int)) (hx : Sees s 1 x b.length (ofBytes b)) (hb : b.length ≤ 5000) :
    Runs Try.prog lib 12 [x, .int .i64 most] s (Gives s.next s (unlzw b mo).2 (unlzw b mo).1) := by
  obtain ⟨base, hbase⟩ : ∃ base, base = s.next := ⟨_, rfl⟩
  obtain ⟨R, hR⟩ : ∃ R, R = unlzw b mo := ⟨_, rfl⟩
  rw [← hR, ← hbase]
  have hbl : base ≤ s.next := by omega
  have hx0 : Low base s 1 x b.length (ofBytes b) := by rw [hbase]; exact hx.low
  refine Runs.enter 124 Try.func12 rfl hl rfl rfl ?_
  intro f hn hf
  have h0 : f.get 0 = x := hf 0
  have h1 : f.get 1 = .int .i64 most := hf 1
  clear hf
  simp (config := { maxSteps := 1000000, implicitDefEqProofs := false }) (disch := omega) only [wcode_region, wcode_seq, wthen_normal, wops_nil, wops_cons, wwant_true, wstep_val, aop_move, aop_assign, aop_box, aop_build, aop_call_builtin, wanted_none, get_put, n_put, evalA_tmp, evalA_int, evalA_snil, evalAll, partsA, cells_agg, vOf_some, builtin_max, Nat.reduceLT, Nat.reduceEqDiff, ↓reduceIte, eq_self, hn, h1, sinkZero, hMM]
  refine wstep_newPtr ?_
  intro s1 ho hst hnx
  obtain ⟨i, hi⟩ : ∃ i, i = s.next := ⟨_, rfl⟩
  rw [← hi] at ho
  have hib : base ≤ i := by omega
  simp (config := { maxSteps := 1000000, implicitDefEqProofs := false }) (disch := omega) only [wcode_region, wcode_seq, wthen_normal, wcode_block, wcode_loop, wops_nil, wops_cons, wwant_true, wstep_val, aop_assign, wanted_none, get_put, n_put, evalA_tmp, evalA_int, evalA_snil, vOf_some, Nat.reduceLT, Nat.reduceAdd, Nat.zero_add, ↓reduceIte, eq_self, hn, List.length_cons, List.length_nil]
  refine Comes.loopAt (RInv base s i x b mo R)
    ⟨by simp only [n_put, hn], by simp only [get_put, ↓reduceIte, Nat.reduceEqDiff, h0], by simp only [get_put, ↓reduceIte, Nat.reduceEqDiff, hi], by rw [hbase]; exact hst, .inr ⟨0, 0, [], [], [], .slice none 0 0, .slice none 0 0, .slice none 0 0, [], ⟨⟨ho, .nil, Fresh.nil _, (fun e => by cases e), hib⟩, .nil, (fun k r h => by simp at h), Fresh.nil _, (fun e => by cases e), (fun k h e => by cases e), .inl ⟨rfl, rfl⟩⟩, by simp, by simp, ⟨fun r h => by simp at h, by simp, by simp⟩, by omega, by omega, (show 8 * b.length < 0 + (8 * b.length + 1) by omega), hR.symm, by simp only [get_put, ↓reduceIte, Nat.reduceEqDiff], by simp only [get_put, ↓reduceIte, Nat.reduceEqDiff], by simp only [get_put, ↓reduceIte, Nat.reduceEqDiff]; rfl, by simp only [get_put, ↓reduceIte]; rfl⟩⟩ ?_
  clear hn h0 h1 f ho hst hnx s1
  rintro z f s2 ⟨hn, h0, h6, hst, ⟨B, out, bad, hbad, hs, hRb⟩ | ⟨p, m, T, L, out, B, tv, lv, vs, hD, hmo, hTl, hS, hm, hp, hz, hdec, h7, h8, h9, h10⟩⟩
  · have hbad' : ¬ (bad : Int) = 0 := by omega
    have l2 := hs.t.load (P := Try.prog) agInt (off := 2) (c := 4) rfl (by simp)
    simp (config := { maxSteps := 1000000, implicitDefEqProofs := false }) (disch := omega) only [wcode_region, wcode_seq, wthen_normal, wthen_exit, wcode_cond, wcond_bool, wif_false, wblk_exit, wcode_exit, wops_nil, wops_cons, wwant_true, wstep_val, wstep_call, wround_exit, aop_move, aop_load, aop_nilCheck, aop_binOp, aop_fieldAddr, aop_call_value, wanted_none, get_put, n_put, evalA_tmp, evalA_int, evalA_func, evalAll, vOf_some, bin_eql, List.cons_append, List.nil_append, Nat.reduceLT, Nat.reduceEqDiff, Nat.zero_add, List.getD_cons_zero, List.getD_cons_succ, ↓reduceIte, decide_false, eq_self, hn, h6, fld2, l2, eq_false hbad']
    refine (sinkOut_any hlo base s2 i out mo bad hs.is).mono ?_
    rintro v s3 ⟨Bo, rfl, ho, hF, hst3⟩
    rw [if_neg hbad'] at ho
    simp (config := { maxSteps := 1000000, implicitDefEqProofs := false }) (disch := omega) only [wthen_normal, wcode_ret, wops_nil, wops_cons, wwant_true, wstep_val, wcall_some, wfn_ret, wres_some, resultsA_nil, resultsA_tmp, oneOf, aop_assign, aop_extract, wanted_none, get_put, n_put, evalA_tmp, vOf_some, Nat.reduceLT, Nat.reduceEqDiff, ↓reduceIte, eq_self, hn, dxtrA, dxtrB, Try.results12]
    rw [hRb]
    exact ⟨Bo, rfl, ho, hF, hst.trans hst3⟩
  · obtain ⟨z, rfl⟩ : ∃ y, z = y + 1 := ⟨z - 1, by omega⟩
    have hb2 : base ≤ s2.next := Nat.le_trans hbl hst.next
    have l2 := hD.sink.t.load (P := Try.prog) agInt (off := 2) (c := 4) rfl (by simp)
    obtain ⟨w, hw⟩ : ∃ w, w = width (258 + T.length) := ⟨_, rfl⟩
    have hw9 := width_le (258 + T.length)
    rw [← hw] at hw9
    have hol : out.length ≤ 20000000 := by
      have h1 := hS.out
      have h2 : m ≤ 4444 := by omega
      have h3 : m * m ≤ 4444 * 4444 := Nat.mul_le_mul h2 h2
      omega
    simp (config := { maxSteps := 1000000, implicitDefEqProofs := false }) (disch := omega) only [wcode_skip, wcode_region, wcode_seq, wthen_normal, wcode_cond, wcond_bool, wif_true, wcode_block, wops_nil, wops_cons, wwant_true, wstep_val, wstep_call, aop_move, aop_load, aop_nilCheck, aop_binOp, aop_fieldAddr, aop_call_value, wanted_none, get_put, n_put, evalA_tmp, evalA_int, evalA_func, evalAll, vOf_some, bin_eql, List.cons_append, List.nil_append, Nat.reduceLT, Nat.reduceEqDiff, Nat.zero_add, List.getD_cons_zero, List.getD_cons_succ, ↓reduceIte, decide_true, eq_self, hn, h6, h9, fld2, l2]
    refine (rwidth_any hlw s2 (258 + T.length)).mono ?_
    rintro _ s3 ⟨rfl, hs3⟩
    subst hs3
    rw [← hw]
    simp (config := { maxSteps := 1000000, implicitDefEqProofs := false }) (disch := omega) only [wcode_region, wcode_seq, wthen_normal, wops_nil, wops_cons, wwant_true, wstep_val, wstep_call, wcall_some, aop_move, aop_assign, aop_call_value, wanted_none, get_put, n_put, evalA_tmp, evalA_func, evalAll, vOf_some, List.cons_append, List.nil_append, Nat.reduceLT, Nat.reduceEqDiff, ↓reduceIte, eq_self, hn, h0, h10]
    refine (rhigh_any hlh s3 x b p w (hx0.stay hst).sees (by omega) hp (by omega)).mono ?_
    rintro _ s4 ⟨rfl, hs4⟩
    subst hs4
    by_cases c1 : 8 * b.length < p + w
    · rw [if_pos c1]
      have hr2 := dec_short (most := mo) (k := z) (last := L) (out := out) (by rw [← hw]; exact c1)
      rw [hr2] at hdec
      have hc0 : (-1 : Int) < 0 := by decide
      simp (config := { maxSteps := 1000000, implicitDefEqProofs := false }) (disch := omega) only [wcode_region, wcode_seq, wthen_normal, wcode_cond, wcond_bool, wif_true, wcode_block, wops_nil, wops_cons, wwant_true, wstep_val, wstep_call, wcall_some, aop_move, aop_assign, aop_binOp, aop_call_value, wanted_none, get_put, n_put, evalA_tmp, evalA_int, evalA_snil, evalA_func, evalAll, vOf_some, bin_add, bin_lss, List.cons_append, List.nil_append, Nat.reduceLT, Nat.reduceEqDiff, ↓reduceIte, decide_true, eq_self, hn, h6, h10, eq_true hc0, wrapI]
      refine (rfail_any hlf base s4 i B out mo 2 hD.sink).mono ?_
      rintro _ s5 ⟨hs5, k5⟩
      simp (config := { maxSteps := 1000000, implicitDefEqProofs := false }) (disch := omega) only [wthen_normal, wthen_exit, wblk_exit, wcode_exit, wops_nil, wcall_some, n_put, Nat.reduceLT, Nat.reduceEqDiff, ↓reduceIte, eq_self, hn]
      refine wround_next z (by omega) ⟨by simp only [n_put, hn], by simp only [get_put, ↓reduceIte, Nat.reduceEqDiff, h0], by simp only [get_put, ↓reduceIte, Nat.reduceEqDiff, h6], hst.trans (k5.stay hib hD.sink.f hb2), .inl ⟨B, out, 2, by decide, hs5, hdec.symm⟩⟩
    · rw [if_neg c1]
      obtain ⟨c, hc⟩ : ∃ c, c = hbits b p w := ⟨_, rfl⟩
      have hc4 : c < 4096 := by
        rw [hc]
        have h1 := hbits_lt b p w
        have h2 : 2 ^ w ≤ 2 ^ 12 := Nat.pow_le_pow_right (by omega) (by omega)
        omega
      rw [← hc]
      have hc0 : ¬ (c : Int) < 0 := by omega
      by_cases k6 : c = 256
      · have k6' : (c : Int) = 256 := by omega
        have hr2 := dec_clear (most := mo) (k := z) (last := L) (out := out) (by rw [← hw]; exact c1) (by rw [← hw, ← hc]; exact k6)
        rw [hr2, ← hw] at hdec
        simp (config := { maxSteps := 1000000, implicitDefEqProofs := false }) (disch := omega) only [wcode_region, wcode_seq, wthen_normal, wthen_exit, wcode_cond, wcond_bool, wif_true, wif_false, wcode_block, wblk_exit, wcode_exit, wops_nil, wops_cons, wwant_true, wstep_val, wcall_some, aop_move, aop_assign, aop_binOp, wanted_none, get_put, n_put, evalA_tmp, evalA_int, evalA_snil, vOf_some, bin_add, bin_eql, bin_lss, Nat.reduceLT, Nat.reduceEqDiff, ↓reduceIte, decide_true, decide_false, eq_self, hn, h10, eq_false hc0, eq_true k6', wrapI]
        refine wround_next z (by omega) ⟨by simp only [n_put, hn], by simp only [get_put, ↓reduceIte, Nat.reduceEqDiff, h0], by simp only [get_put, ↓reduceIte, Nat.reduceEqDiff, h6], hst, .inr ⟨p + w, m, [], [], out, B, _, _, [], hD.cleared, hmo, by simp, ⟨fun r h => by simp at h, by simp, hS.out⟩, by omega, by omega, by omega, hdec, by simp only [get_put, ↓reduceIte, Nat.reduceEqDiff], by simp only [get_put, ↓reduceIte, Nat.reduceEqDiff], by simp only [get_put, ↓reduceIte]; rfl, by simp only [get_put, ↓reduceIte, Nat.reduceEqDiff]; rfl⟩⟩
      · have k6' : ¬ (c : Int) = 256 := by omega
        by_cases k7 : c = 257
        · have k7' : (c : Int) = 257 := by omega
          have hr2 := dec_end (most := mo) (k := z) (last := L) (out := out) (by rw [← hw]; exact c1) (by rw [← hw, ← hc]; exact k7)
          rw [hr2] at hdec
          simp (config := { maxSteps := 1000000, implicitDefEqProofs := false }) (disch := omega) only [wcode_region, wcode_seq, wthen_normal, wcode_cond, wcond_bool, wif_true, wif_false, wcode_block, wops_nil, wops_cons, wwant_true, wstep_val, wstep_call, wcall_some, aop_move, aop_assign, aop_binOp, aop_call_value, wanted_none, get_put, n_put, evalA_tmp, evalA_int, evalA_snil, evalA_func, evalAll, vOf_some, bin_add, bin_eql, bin_lss, List.cons_append, List.nil_append, Nat.reduceLT, Nat.reduceEqDiff, ↓reduceIte, decide_true, decide_false, eq_self, hn, h6, h10, eq_false hc0, eq_false k6', eq_true k7', wrapI]
          refine (sinkOut_any hlo base s4 i out mo 0 hD.sink.is).mono ?_
          rintro v s5 ⟨Bo, rfl, ho, hF, hst5⟩
          rw [if_pos rfl] at ho
          simp (config := { maxSteps := 1000000, implicitDefEqProofs := false }) (disch := omega) only [wthen_normal, wthen_ret, wblk_ret, wcode_ret, wops_nil, wops_cons, wwant_true, wstep_val, wcall_some, wround_ret, wfn_ret, wres_some, resultsA_nil, resultsA_tmp, oneOf, aop_assign, aop_extract, wanted_none, get_put, n_put, evalA_tmp, vOf_some, Nat.reduceLT, Nat.reduceEqDiff, ↓reduceIte, eq_self, hn, dxtrA, dxtrB, Try.results12]
          rw [← hdec]
          exact ⟨Bo, rfl, ho, hF, hst.trans hst5⟩
        · have k7' : ¬ (c : Int) = 257 := by omega
          have hr2 := dec_row (most := mo) (k := z) (last := L) (out := out) (by rw [← hw]; exact c1) (by rw [← hw, ← hc]) k7 k6
          rw [hr2] at hdec
          clear hr2
          simp (config := { maxSteps := 1000000, implicitDefEqProofs := false }) (disch := omega) only [wcode_region, wcode_seq, wthen_normal, wcode_cond, wcond_bool, wif_false, wcode_block, wops_nil, wops_cons, wwant_true, wstep_val, wcall_some, aop_move, aop_assign, aop_binOp, wanted_none, get_put, n_put, evalA_tmp, evalA_int, evalA_snil, vOf_some, bin_add, bin_eql, bin_lss, Nat.reduceLT, Nat.reduceEqDiff, ↓reduceIte, decide_false, eq_self, hn, h10, eq_false hc0, eq_false k6', eq_false k7', wrapI]
          have hidB := hD.sink.o.idlt
          have hidT := hD.tab.idlt
          have hiI := hD.sink.t.lt
          refine wif_cut2 (RCut base s i x B tv lv T L out mo vs (p + w) c) ?_ ?_
          · intro Q' hQ'
            by_cases k8 : c < 256
            · have k8' : (c : Int) < 256 := by omega
              have hrow : rowOf T L c = some [UInt8.ofNat c] := by unfold rowOf; rw [if_pos k8]
              simp (config := { maxSteps := 1000000, implicitDefEqProofs := false }) (disch := omega) only [wcode_region, wif_true, wops_cons, wwant_true, wstep_val, aop_move, aop_buildSlice, aop_convert, wanted_none, get_put, n_put, evalA_tmp, partsA, vOf_some, pOf_some, Nat.reduceLT, Nat.reduceEqDiff, ↓reduceIte, decide_true, eq_self, hn, eq_true k8', conv_int Try.underlying3 Try.underlying5, wrapu8, build1 Try.underlying23 szU8 zU8]
              refine wstep_newSlice (by rfl) ?_
              intro xv s5 hxv hFx hsx
              have hxs : Sees s5 1 xv [UInt8.ofNat c].length (ofBytes [UInt8.ofNat c]) := by
                have e : ofBytes [UInt8.ofNat c] = [.int .u8 (c : Nat)] := by
                  simp only [ofBytes, List.map_cons, List.map_nil, UInt8.toNat_ofNat', Nat.reducePow, Nat.mod_eq_of_lt k8]
                have e2 : (c : Int) % 256 = (c : Int) := by omega
                rw [e2] at hxv
                rw [e]; exact hxv.sees
              simp (config := { maxSteps := 1000000, implicitDefEqProofs := false }) (disch := omega) only [wops_nil, wops_cons, wwant_true, wstep_val, aop_assign, wanted_none, get_put, n_put, evalA_tmp, vOf_some, Nat.reduceLT, ↓reduceIte, eq_self, hn]
              exact hQ' _ _ _ ⟨by simp only [n_put, hn], by simp only [get_put, ↓reduceIte, Nat.reduceEqDiff, h0], by simp only [get_put, ↓reduceIte, Nat.reduceEqDiff, h6], by simp only [get_put, ↓reduceIte, Nat.reduceEqDiff, h7], by simp only [get_put, ↓reduceIte, Nat.reduceEqDiff, h8], by simp only [get_put, ↓reduceIte, Nat.reduceEqDiff, h9], by simp only [get_put, ↓reduceIte, Nat.reduceEqDiff]; rfl, hst.trans (hsx.weaken hb2), .inr ⟨rfl, _, xv, hrow, by simp, hD.stay hsx, Ent.new hxs hiI hidB hidT hFx, by simp only [get_put, ↓reduceIte]⟩⟩
            · have k8' : ¬ (c : Int) < 256 := by omega
              by_cases hL : L = []
              · have hlv : lv = .slice none 0 0 := by
                  rcases hD.last with e | e
                  · exact e.2
                  · exact absurd hL e.1
                have hrow : rowOf T L c = none := by unfold rowOf; rw [if_neg k8, if_pos hL]
                have h8n : f.get 8 = .slice none 0 0 := by rw [h8, hlv]
                have hnl := (Sees.nil (s := s4) (z := 1)).eql_nil (P := Try.prog) Try.underlying23
                rw [isNilS_nil] at hnl
                simp (config := { maxSteps := 1000000, implicitDefEqProofs := false }) (disch := omega) only [wcode_region, wcode_seq, wthen_normal, wcode_cond, wcond_bool, wif_true, wif_false, wops_nil, wops_cons, wwant_true, wstep_val, wstep_call, wwant_false_some, aop_move, aop_assign, aop_pick, aop_binOp, aop_call_value, wanted_none, wanted_some, yieldA_eq, yieldOf_cons, get_put, n_put, evalA_tmp, evalA_bool, evalA_int, evalA_snil, evalA_func, evalAll, vOf_some, List.drop_zero, List.drop_succ_cons, List.cons_append, List.nil_append, Nat.reduceLT, Nat.reduceEqDiff, ↓reduceIte, decide_false, beq_false, Bool.not_true, eq_self, undef, hn, h6, h8n, eq_false k8', hnl]
                refine (rfail_any hlf base s4 i B out mo 4 hD.sink).mono ?_
                rintro _ s5 ⟨hs5, k5⟩
                simp (config := { maxSteps := 1000000, implicitDefEqProofs := false }) (disch := omega) only [wthen_normal, wcode_exit, wops_nil, wcall_some, n_put, Nat.reduceLT, ↓reduceIte, hn]
                exact hQ' _ _ _ ⟨by simp only [n_put, hn], by simp only [get_put, ↓reduceIte, Nat.reduceEqDiff, h0], by simp only [get_put, ↓reduceIte, Nat.reduceEqDiff, h6], by simp only [get_put, ↓reduceIte, Nat.reduceEqDiff, h7], by simp only [get_put, ↓reduceIte, Nat.reduceEqDiff, h8], by simp only [get_put, ↓reduceIte, Nat.reduceEqDiff, h9], by simp only [get_put, ↓reduceIte, Nat.reduceEqDiff]; rfl, hst.trans (k5.stay hib hD.sink.f hb2), .inl ⟨rfl, hrow, hs5⟩⟩
              · obtain ⟨_, hE⟩ := hD.last.resolve_left (fun e => hL e.1)
                have hLp := List.length_pos_iff.mpr hL
                have hnl := hE.see.eql_nil (P := Try.prog) Try.underlying23
                rw [hE.see.notNil hLp] at hnl
                by_cases k9 : 258 + T.length < c
                · have k9' : ((258 + T.length : Nat) : Int) < (c : Int) := by omega
                  have hrow : rowOf T L c = none := by
                    unfold rowOf; rw [if_neg k8, if_neg hL, if_neg (by omega)]
                    exact List.getElem?_eq_none (by omega)
                  simp (config := { maxSteps := 1000000, implicitDefEqProofs := false }) (disch := omega) only [wcode_region, wcode_seq, wthen_normal, wcode_cond, wcond_bool, wif_true, wif_false, wops_nil, wops_cons, wwant_true, wstep_val, wstep_call, wwant_false_some, aop_move, aop_assign, aop_pick, aop_binOp, aop_call_value, wanted_none, wanted_some, yieldA_eq, yieldOf_cons, get_put, n_put, evalA_tmp, evalA_bool, evalA_int, evalA_snil, evalA_func, evalAll, vOf_some, bin_gtr, List.drop_zero, List.drop_succ_cons, List.cons_append, List.nil_append, Nat.reduceLT, Nat.reduceEqDiff, ↓reduceIte, decide_true, decide_false, Bool.false_eq_true, beq_self_eq_true, beq_false, Bool.not_true, eq_self, undef, hn, h6, h8, h9, eq_false k8', hnl, eq_true k9']
                  refine (rfail_any hlf base s4 i B out mo 4 hD.sink).mono ?_
                  rintro _ s5 ⟨hs5, k5⟩
                  simp (config := { maxSteps := 1000000, implicitDefEqProofs := false }) (disch := omega) only [wthen_normal, wcode_exit, wops_nil, wcall_some, n_put, Nat.reduceLT, ↓reduceIte, hn]
                  exact hQ' _ _ _ ⟨by simp only [n_put, hn], by simp only [get_put, ↓reduceIte, Nat.reduceEqDiff, h0], by simp only [get_put, ↓reduceIte, Nat.reduceEqDiff, h6], by simp only [get_put, ↓reduceIte, Nat.reduceEqDiff, h7], by simp only [get_put, ↓reduceIte, Nat.reduceEqDiff, h8], by simp only [get_put, ↓reduceIte, Nat.reduceEqDiff, h9], by simp only [get_put, ↓reduceIte, Nat.reduceEqDiff]; rfl, hst.trans (k5.stay hib hD.sink.f hb2), .inl ⟨rfl, hrow, hs5⟩⟩
                · have k9' : ¬ ((258 + T.length : Nat) : Int) < (c : Int) := by omega
                  by_cases ka : c = 258 + T.length
                  · have ka' : (c : Int) = ((258 + T.length : Nat) : Int) := by omega
                    have kb' : ¬ (4095 : Int) < ((258 + T.length : Nat) : Int) := by omega
                    have hrow : rowOf T L c = some (L ++ L.take 1) := by unfold rowOf; rw [if_neg k8, if_neg hL, if_pos ka]
                    simp (config := { maxSteps := 1000000, implicitDefEqProofs := false }) (disch := omega) only [wcode_region, wcode_draw, wcode_seq, wthen_normal, wcode_cond, wcond_bool, wif_true, wif_false, wops_nil, wops_cons, wwant_true, wstep_val, quiet_call, quiet_buildSlice, quiet_append, Bool.and_false, aop_move, aop_assign, aop_pick, aop_binOp, wanted_none, wanted_some, yieldA_eq, yieldOf_cons, get_put, n_put, evalA_tmp, evalA_bool, evalA_int, evalA_snil, vOf_some, bin_eql, bin_gtr, allQuiet_nil, allQuiet_cons, quiet_move, quiet_assign, quiet_load, quiet_indexAddr, List.drop_zero, List.drop_succ_cons, Nat.reduceLT, Nat.reduceEqDiff, ↓reduceIte, Bool.and_true, decide_true, decide_false, Bool.false_eq_true, beq_self_eq_true, eq_self, hn, h8, h9, eq_false k8', hnl, eq_false k9', eq_true ka', eq_false kb']
                    refine Drawn.looseK 1 (by kernel_rfl) (by kernel_rfl) ?_
                    have hsp := Stay.spare s4 1
                    have hE4 := hE.see.keeps hsp
                    simp (config := { maxSteps := 1000000, implicitDefEqProofs := false }) (disch := omega) only [quiet_call, alloc_call, aop_move, aop_indexAddr, aop_call_value, wanted_none, get_put, n_put, evalA_tmp, evalA_int, evalA_func, evalAll, vOf_some, quiet_move, quiet_indexAddr, List.cons_append, List.nil_append, Nat.reduceLT, Nat.reduceEqDiff, ↓reduceIte, and_self, Bool.false_eq_true, eq_self, wopsS_cons, swant_ite, slook_val, scall_some, low_move, sstep_call, hn, h8, hE.see.self]
                    refine (copy_any hlc (spare s4 1) lv L hE4 (by have := hS.last; omega)).mono ?_
                    rintro u t1 ⟨hu, hFu, hst1⟩
                    rw [spare_next] at hst1 hFu
                    have hs1 : Stay s4.next (spare s4 1) t1 := hst1.weaken (by omega)
                    have hs1' := hsp.trans hs1
                    refine ⟨hs1, ?_⟩
                    have hE5 := hE.see.keeps hs1'
                    have hidx := hE5.indexAddr (k := .i64) (x := (0 : Int)) Try.underlying23 szU8 (by omega) (by omega)
                    rw [show Int.toNat 0 = 0 from rfl] at hidx
                    have hld := hE5.load1 (P := Try.prog) agU8 hLp
                    rw [ofBytes_getD hLp] at hld
                    have hlow := lowV_elemPtr hE.see (Nat.le_refl _) hLp
                    simp (config := { maxSteps := 1000000, implicitDefEqProofs := false }) (disch := omega) only [quiet_buildSlice, alloc_buildSlice, aop_buildSlice, aop_load, wanted_none, get_put, n_put, evalA_tmp, partsA, vOf_some, valEq_int, valEq_elemPtr, quiet_load, Nat.reduceLT, ↓reduceIte, and_self, Bool.false_eq_true, eq_self, wopsS_cons, swant_ite, slook_val, low_load, low_indexAddr, hn, hidx, hld, hlow, build1 Try.underlying23 szU8 zU8]
                    have hnx1 := hst1.next
                    rw [spare_next] at hnx1
                    refine smake_newSlice (base := s4.next) (by rfl) (by omega) (Nat.le_refl _) ?_
                    intro bs t2 hbs hidb hsb hnb hob
                    have hu2 : Own t2 1 u L.length (ofBytes L) := hu.turns (u := bs) ⟨by omega, fun j _ hne => hob j (fun e => hne (by rw [hidb, e]))⟩ (fun j hj => by rw [hidb]; intro e; injection e with e; have := hFu j hj; omega)
                    simp (config := { maxSteps := 1000000, implicitDefEqProofs := false }) (disch := omega) only [quiet_append, alloc_call, aop_call_builtin, wanted_none, get_put, n_put, evalA_tmp, evalAll, builtin_append, Nat.reduceLT, Nat.reduceEqDiff, ↓reduceIte, Bool.false_eq_true, eq_self, wopsS_cons, swant_ite, scall_some, hn]
                    refine sstep_append Try.underlying23 Try.underlying23 (.inl ⟨_, rfl⟩) szU8 byU8 zU8 rfl hu2 hbs.sees.src rfl (by decide) rfl (by have := hS.last; omega) (by have := hS.last; omega) (fun j hj => by have := hFu j hj; omega) (by omega) ?_
                    intro xv t3 hxv hFx hsx htx hidx3
                    have hst3 := (hs1'.trans hsb).trans hsx
                    have hxs : Sees t3 1 xv (L ++ L.take 1).length (ofBytes (L ++ L.take 1)) := by
                      have e : L.take 1 = [L.getD 0 0] := take_one_more hLp
                      rw [e, ofBytes_append, List.length_append]; exact hxv.sees
                    simp (config := { maxSteps := 1000000, implicitDefEqProofs := false }) (disch := omega) only [aop_assign, wanted_none, get_put, n_put, evalA_tmp, vOf_some, quiet_assign, Nat.reduceLT, ↓reduceIte, and_self, eq_self, wopsS_nil, wopsS_cons, swant_ite, slook_val, scall_some, low_assign, hn, hxv.self]
                    exact hQ' _ _ _ ⟨by simp only [n_put, hn], by simp only [get_put, ↓reduceIte, Nat.reduceEqDiff, h0], by simp only [get_put, ↓reduceIte, Nat.reduceEqDiff, h6], by simp only [get_put, ↓reduceIte, Nat.reduceEqDiff, h7], by simp only [get_put, ↓reduceIte, Nat.reduceEqDiff, h8], by simp only [get_put, ↓reduceIte, Nat.reduceEqDiff, h9], by simp only [get_put, ↓reduceIte, Nat.reduceEqDiff]; rfl, hst.trans (hst3.weaken hb2), .inr ⟨rfl, _, xv, hrow, by simp [hL], hD.stay hst3, Ent.new hxs hiI hidB hidT hFx, by simp only [get_put, ↓reduceIte]⟩⟩
                  · have ka' : ¬ (c : Int) = ((258 + T.length : Nat) : Int) := by omega
                    have hct : c - 258 < T.length := by omega
                    have hrow : rowOf T L c = T[c - 258]? := by unfold rowOf; rw [if_neg k8, if_neg hL, if_neg ka]
                    simp (config := { maxSteps := 1000000, implicitDefEqProofs := false }) (disch := omega) only [wcode_region, wcode_seq, wthen_normal, wcode_cond, wcond_bool, wif_false, wops_nil, wops_cons, wwant_true, wstep_val, wwant_false_some, aop_move, aop_assign, aop_pick, aop_binOp, aop_indexAddr, wanted_none, wanted_some, yieldA_eq, yieldOf_cons, get_put, n_put, evalA_tmp, evalA_bool, evalA_int, evalA_snil, vOf_some, bin_sub, bin_eql, bin_gtr, List.drop_zero, List.drop_succ_cons, Nat.reduceLT, Nat.reduceEqDiff, ↓reduceIte, decide_false, Bool.false_eq_true, beq_self_eq_true, beq_true, eq_self, undef, hn, h7, h8, h9, eq_false k8', hnl, eq_false k9', eq_false ka']
                    have hr3 := List.getElem?_eq_getElem hct
                    rw [hr3] at hrow
                    obtain ⟨hr0, hEr⟩ := hD.ents _ _ hr3
                    have ec : (c : Int) - 258 = ((c - 258 : Nat) : Int) := by omega
                    have hidx := hD.tab.sees.indexAddr (k := .i64) (x := ((c - 258 : Nat) : Int)) Try.underlying58 szSl (by omega) (by omega)
                    rw [Int.toNat_natCast] at hidx
                    have hld := hD.tab.sees.load1 (P := Try.prog) agSl hct
                    simp (config := { maxSteps := 1000000, implicitDefEqProofs := false }) (disch := omega) only [wops_nil, wops_cons, wwant_true, wstep_val, aop_assign, aop_load, wanted_none, get_put, n_put, evalA_tmp, vOf_some, Nat.reduceLT, ↓reduceIte, eq_self, hn, wrapI, ec, hidx, hld]
                    exact hQ' _ _ _ ⟨by simp only [n_put, hn], by simp only [get_put, ↓reduceIte, Nat.reduceEqDiff, h0], by simp only [get_put, ↓reduceIte, Nat.reduceEqDiff, h6], by simp only [get_put, ↓reduceIte, Nat.reduceEqDiff, h7], by simp only [get_put, ↓reduceIte, Nat.reduceEqDiff, h8], by simp only [get_put, ↓reduceIte, Nat.reduceEqDiff, h9], by simp only [get_put, ↓reduceIte, Nat.reduceEqDiff]; rfl, hst, .inr ⟨rfl, _, _, hrow, hr0, hD, hEr, by simp only [get_put, ↓reduceIte]⟩⟩
          · rintro y f s5 ⟨hn, h0, h6, h7, h8, h9, h10, hst5, ⟨rfl, hrow, hs5⟩ | ⟨rfl, X, xv, hrow, hX0, hD5, hE5, h13⟩⟩
            · rw [hrow] at hdec
              simp (config := { maxSteps := 1000000, implicitDefEqProofs := false }) (disch := omega) only [wthen_exit, wblk_exit, Nat.reduceEqDiff, ↓reduceIte, eq_self]
              refine wround_next z (by omega) ⟨by simp only [hn], by simp only [h0], by simp only [h6], hst5, .inl ⟨B, out, 4, by decide, hs5, hdec.symm⟩⟩
            · rw [hrow] at hdec
              simp only at hdec
              rw [← hw] at hdec
              have hXp := List.length_pos_iff.mpr hX0
              have hS4 : Short (m + 1) (grow T L X) X (out ++ X) := (hS.row hrow).elim (fun e => e.1) (fun e => absurd e hX0)
              have hXl := hS4.last
              clear hD hidB hidT hiI l2
              simp (config := { maxSteps := 1000000, implicitDefEqProofs := false }) (disch := omega) only [wcode_region, wcode_seq, wthen_normal, wcode_block, wblk_normal, wcode_loop, wops_nil, wops_cons, wwant_true, wstep_val, aop_assign, wanted_none, evalA_int, vOf_some, Nat.reduceLT, ↓reduceIte, hn]
              refine Comes.loopOut (fun y f s' => ∃ (k : Nat) (B' : Value) (o' : List UInt8) (bad' : Int), y = X.length - k ∧ k ≤ X.length ∧ RDec base s' i B' tv lv T L o' mo bad' vs ∧ Ent s' i B' tv xv X ∧ ((bad' = 0 ∧ o' = out ++ X.take k ∧ out.length + k ≤ mo) ∨ (bad' = 7 ∧ mo < out.length + X.length ∧ o'.length ≤ out.length + X.length)) ∧ Stay base s s' ∧ f.n = 124 ∧ f.get 0 = x ∧ f.get 6 = .pointer (some ⟨i, 0, some 4⟩) ∧ f.get 7 = tv ∧ f.get 8 = lv ∧ f.get 9 = .int .i64 ((258 + T.length : Nat) : Int) ∧ f.get 10 = .int .i64 ((p + w : Nat) : Int) ∧ f.get 13 = xv ∧ f.get 14 = .int .i64 (k : Nat))
                (fun y f s' => y = .exit 3 ∧ ∃ (B' : Value) (o' : List UInt8) (bad' : Int), RDec base s' i B' tv lv T L o' mo bad' vs ∧ Ent s' i B' tv xv X ∧ ((bad' = 0 ∧ o' = out ++ X ∧ out.length + X.length ≤ mo) ∨ (bad' = 7 ∧ mo < out.length + X.length)) ∧ Stay base s s' ∧ f.n = 124 ∧ f.get 0 = x ∧ f.get 6 = .pointer (some ⟨i, 0, some 4⟩) ∧ f.get 7 = tv ∧ f.get 8 = lv ∧ f.get 9 = .int .i64 ((258 + T.length : Nat) : Int) ∧ f.get 10 = .int .i64 ((p + w : Nat) : Int) ∧ f.get 13 = xv)
                ⟨0, B, out, 0, rfl, by omega, hD5, hE5, .inl ⟨rfl, by simp, by omega⟩, hst5, by simp only [n_put, hn], by simp only [get_put, ↓reduceIte, Nat.reduceEqDiff, h0], by simp only [get_put, ↓reduceIte, Nat.reduceEqDiff, h6], by simp only [get_put, ↓reduceIte, Nat.reduceEqDiff, h7], by simp only [get_put, ↓reduceIte, Nat.reduceEqDiff, h8], by simp only [get_put, ↓reduceIte, Nat.reduceEqDiff, h9], by simp only [get_put, ↓reduceIte, Nat.reduceEqDiff, h10], by simp only [get_put, ↓reduceIte, Nat.reduceEqDiff, h13], by simp only [get_put, ↓reduceIte]; rfl⟩ ?_ ?_
              · clear hn h0 h6 h7 h8 h9 h10 h13 f hD5 hE5 hst5 s5
                rintro Q hQ y f s5 ⟨k, B', o', bad', rfl, hk, hD5, hE5, hbad, hst5, hn, h0, h6, h7, h8, h9, h10, h13, h14⟩
                by_cases hkX : k < X.length
                · have ck : (k : Int) < (X.length : Int) := by omega
                  have hidx := hE5.see.indexAddr (k := .i64) (x := (k : Int)) Try.underlying23 szU8 (by omega) (by omega)
                  rw [Int.toNat_natCast] at hidx
                  have hld := hE5.see.load1 (P := Try.prog) agU8 hkX
                  rw [ofBytes_getD hkX] at hld
                  simp (config := { maxSteps := 1000000, implicitDefEqProofs := false }) (disch := omega) only [wcode_skip, wcode_region, wcode_seq, wthen_normal, wcode_cond, wcond_bool, wif_true, wcode_block, wops_nil, wops_cons, wwant_true, wstep_val, wstep_call, aop_move, aop_load, aop_binOp, aop_indexAddr, aop_call_value, aop_call_builtin, wanted_none, get_put, n_put, evalA_tmp, evalA_func, evalAll, vOf_some, builtin_len, bin_lss, List.cons_append, List.nil_append, Nat.reduceLT, Nat.reduceEqDiff, ↓reduceIte, decide_true, eq_self, hn, h6, h13, h14, hE5.see.lenA Try.underlying23, eq_true ck, hidx, hld]
                  have hol' : o'.length < 4294967295 := by
                    rcases hbad with ⟨_, e, _⟩ | ⟨_, _, e⟩
                    · rw [e, List.length_append, List.length_take]; omega
                    · omega
                  refine (rput_any hlp base s5 i B' o' mo bad' (X.getD k 0) hD5.sink hol').mono ?_
                  rintro _ s6 ⟨B6, hs6, k6⟩
                  have hst6 := hst5.trans (k6.stay hib hD5.sink.f (Nat.le_trans hbl hst5.next))
                  simp (config := { maxSteps := 1000000, implicitDefEqProofs := false }) (disch := omega) only [wcode_region, wthen_normal, wblk_normal, wops_nil, wops_cons, wwant_true, wstep_val, wcall_some, aop_move, aop_assign, aop_binOp, wanted_none, get_put, n_put, evalA_tmp, evalA_int, vOf_some, bin_add, Nat.reduceLT, Nat.reduceEqDiff, ↓reduceIte, eq_self, hn, h14, wrapI]
                  refine wround_next (X.length - (k + 1)) (by omega) ⟨k + 1, B6, _, _, rfl, by omega, hD5.sunk k6 hs6, hE5.sink hX0 k6, ?_, hst6, by simp only [n_put, hn], by simp only [get_put, ↓reduceIte, Nat.reduceEqDiff, h0], by simp only [get_put, ↓reduceIte, Nat.reduceEqDiff, h6], by simp only [get_put, ↓reduceIte, Nat.reduceEqDiff, h7], by simp only [get_put, ↓reduceIte, Nat.reduceEqDiff, h8], by simp only [get_put, ↓reduceIte, Nat.reduceEqDiff, h9], by simp only [get_put, ↓reduceIte, Nat.reduceEqDiff, h10], by simp only [get_put, ↓reduceIte, Nat.reduceEqDiff, h13], by simp only [get_put, ↓reduceIte]; rfl⟩
                  rcases hbad with ⟨rfl, rfl, hle⟩ | ⟨rfl, hlt, hle⟩
                  · have hl6 : (out ++ X.take k).length = out.length + k := by rw [List.length_append, List.length_take]; omega
                    rw [hl6]
                    by_cases cm : out.length + k < mo
                    · refine .inl ⟨if_neg (by omega), ?_, by omega⟩
                      rw [if_pos ⟨rfl, by omega⟩, take_one_more hkX, List.append_assoc]
                    · refine .inr ⟨if_pos ⟨rfl, by omega⟩, by omega, ?_⟩
                      rw [if_neg (by omega)]; omega
                  · refine .inr ⟨if_neg (by omega), hlt, ?_⟩
                    rw [if_neg (by omega)]; exact hle
                · obtain rfl : k = X.length := by omega
                  have ck : ¬ (X.length : Int) < (X.length : Int) := by omega
                  simp (config := { maxSteps := 1000000, implicitDefEqProofs := false }) (disch := omega) only [wcode_region, wcode_seq, wthen_normal, wthen_exit, wcode_cond, wcond_bool, wif_false, wcode_exit, wops_nil, wops_cons, wwant_true, wstep_val, wround_exit, aop_move, aop_binOp, aop_call_builtin, wanted_none, get_put, n_put, evalA_tmp, evalAll, vOf_some, builtin_len, bin_lss, Nat.reduceLT, Nat.reduceEqDiff, ↓reduceIte, decide_false, eq_self, hn, h13, h14, hE5.see.lenA Try.underlying23, eq_false ck]
                  refine hQ _ _ _ ⟨rfl, B', o', bad', hD5, hE5, ?_, hst5, by simp only [n_put, hn], by simp only [get_put, ↓reduceIte, Nat.reduceEqDiff, h0], by simp only [get_put, ↓reduceIte, Nat.reduceEqDiff, h6], by simp only [get_put, ↓reduceIte, Nat.reduceEqDiff, h7], by simp only [get_put, ↓reduceIte, Nat.reduceEqDiff, h8], by simp only [get_put, ↓reduceIte, Nat.reduceEqDiff, h9], by simp only [get_put, ↓reduceIte, Nat.reduceEqDiff, h10], by simp only [get_put, ↓reduceIte, Nat.reduceEqDiff, h13]⟩
                  rcases hbad with ⟨e1, e2, e3⟩ | ⟨e1, e2, e3⟩
                  · exact .inl ⟨e1, by rw [e2, List.take_of_length_le (Nat.le_refl _)], e3⟩
                  · exact .inr ⟨e1, e2⟩
              · clear hn h0 h6 h7 h8 h9 h10 h13 f hD5 hE5 hst5 s5
                rintro _ f s5 ⟨rfl, B5, o5, bad5, hD5, hE5, hbad, hst5, hn, h0, h6, h7, h8, h9, h10, h13⟩
                have hb5 := Nat.le_trans hbl hst5.next
                have fin : ∀ (f : AFr) (s6 : ASt) (tv' : Value) (vs' : List Value) (T' : List (List UInt8)), T' = grow T L X → RDec base s6 i B5 tv' xv T' X o5 mo bad5 vs' → Stay base s s6 → f.n = 124 → f.get 0 = x → f.get 6 = .pointer (some ⟨i, 0, some 4⟩) → f.get 7 = tv' → f.get 8 = xv → f.get 9 = .int .i64 ((258 + T'.length : Nat) : Int) → f.get 10 = .int .i64 ((p + w : Nat) : Int) → RInv base s i x b mo R z f s6 := by
                  intro f s6 tv' vs' T' hT' hD6 hst6 g g0 g6 g7 g8 g9 g10
                  refine ⟨g, g0, g6, hst6, ?_⟩
                  rcases hbad with ⟨e1, e2, e3⟩ | ⟨e1, e2⟩
                  · rw [if_neg (by omega)] at hdec
                    rw [e1, e2] at hD6
                    refine .inr ⟨p + w, m + 1, T', X, out ++ X, B5, tv', xv, vs', hD6, by rw [List.length_append]; exact e3, by rw [hT']; exact grow_le hTl L X, by rw [hT']; exact hS4, by omega, by omega, by omega, by rw [hT']; exact hdec, g7, g8, g9, g10⟩
                  · rw [if_pos e2] at hdec
                    rw [e1] at hD6
                    exact .inl ⟨B5, o5, 7, by decide, hD6.sink, hdec.symm⟩
                by_cases gr : L ≠ [] ∧ 258 + T.length < 4096
                · have hgr : T ++ [L ++ X.take 1] = grow T L X := by unfold grow; rw [if_pos gr]
                  obtain ⟨hL, hT4⟩ := gr
                  obtain ⟨_, hE⟩ := hD5.last.resolve_left (fun e => hL e.1)
                  have hLp := List.length_pos_iff.mpr hL
                  have hnl := hE.see.neq_nil (P := Try.prog) Try.underlying23
                  rw [hE.see.notNil hLp] at hnl
                  have cT : ((258 + T.length : Nat) : Int) < 4096 := by omega
                  simp (config := { maxSteps := 1000000, implicitDefEqProofs := false }) (disch := omega) only [wcode_region, wcode_draw, wcode_seq, wthen_normal, wcode_cond, wcond_bool, wif_true, wblk_exit, wops_nil, wops_cons, wwant_true, wstep_val, quiet_call, quiet_buildSlice, quiet_append, Bool.and_false, aop_move, aop_pick, aop_binOp, wanted_none, wanted_some, yieldA_eq, yieldOf_cons, get_put, n_put, evalA_tmp, evalA_bool, evalA_int, evalA_snil, vOf_some, bin_lss, allQuiet_nil, allQuiet_cons, quiet_move, quiet_assign, quiet_load, quiet_indexAddr, List.drop_zero, List.drop_succ_cons, Nat.reduceLT, Nat.reduceEqDiff, ↓reduceIte, Bool.and_true, decide_true, beq_self_eq_true, Bool.not_false, eq_self, hn, h8, h9, hnl, eq_true cT]
                  obtain ⟨A, hA⟩ : ∃ A : Nat → Bool, A = fun j => Nat.blt j s5.next && !(decide (idOf tv = some j)) := ⟨_, rfl⟩
                  have hAl : ∀ j, A j = true → j < s5.next := by
                    intro j h
                    rw [hA] at h
                    simp only [Bool.and_eq_true, Nat.blt_eq] at h
                    exact h.1
                  have hAt : ∀ j, idOf tv = some j → A j = false := by
                    intro j h
                    rw [hA]
                    simp only [h, decide_true, Bool.not_true, Bool.and_false]
                  have hAx : ∀ j, idOf xv = some j → A j = true := by
                    intro j h
                    have h1 := idlt_sees hE5.see hXp j h
                    have h2 : idOf tv ≠ some j := fun e => hE5.nt j e h
                    rw [hA]
                    simp only [Bool.and_eq_true, Nat.blt_eq]
                    refine ⟨h1, ?_⟩
                    rw [decide_eq_false h2]; rfl
                  refine LA.Drawn.looseK A hAl 2 (by kernel_rfl) (by kernel_rfl) ?_
                  have hsp := Stay.spare s5 2
                  simp (config := { maxSteps := 1000000, implicitDefEqProofs := false }) (disch := omega) only [quiet_call, alloc_call, aop_move, aop_indexAddr, aop_call_value, wanted_none, get_put, n_put, evalA_tmp, evalA_int, evalA_func, evalAll, vOf_some, quiet_move, quiet_indexAddr, List.cons_append, List.nil_append, Nat.reduceLT, Nat.reduceEqDiff, ↓reduceIte, true_and, and_true, and_self, Bool.false_eq_true, eq_self, LA.wopsS_cons, LA.swant_ite, LA.slook_val, LA.scall_some, LA.low_move, LA.sstep_call, hn, h7, h8, h13, hE.see.self, hD5.tab.self]
                  refine (copy_any hlc (spare s5 2) lv L (hE.see.keeps hsp) (by have := hS.last; omega)).mono ?_
                  rintro u t1 ⟨hu, hFu, hst1⟩
                  rw [spare_next] at hst1 hFu
                  have hs1 : Stay s5.next (spare s5 2) t1 := hst1.weaken (by omega)
                  have hs1' := hsp.trans hs1
                  have hnx1 := hst1.next
                  rw [spare_next] at hnx1
                  refine ⟨LA.Stay.toA (n := s5.next + 2) (fun j hj => by have := hAl j hj; omega) hst1, ?_⟩
                  have hX1 := hE5.see.keeps hs1'
                  have hidx := hX1.indexAddr (k := .i64) (x := (0 : Int)) Try.underlying23 szU8 (by omega) (by omega)
                  rw [show Int.toNat 0 = 0 from rfl] at hidx
                  have hld := hX1.load1 (P := Try.prog) agU8 hXp
                  rw [ofBytes_getD hXp] at hld
                  have hlow := LA.lowV_elemPtr hE5.see hAx hXp
                  simp (config := { maxSteps := 1000000, implicitDefEqProofs := false }) (disch := omega) only [quiet_buildSlice, alloc_buildSlice, aop_buildSlice, aop_load, wanted_none, get_put, n_put, evalA_tmp, partsA, vOf_some, valEq_int, valEq_elemPtr, quiet_load, Nat.reduceLT, ↓reduceIte, and_self, Bool.false_eq_true, eq_self, LA.wopsS_cons, LA.swant_ite, LA.slook_val, LA.low_load, LA.low_indexAddr, hn, hE5.see.self, hidx, hld, hlow, build1 Try.underlying23 szU8 zU8]
                  refine LA.smake_newSlice (base := s5.next) (by rfl) (by omega) (Nat.le_refl _) ?_
                  intro bs t2 hbs hidb hsb hnb hob
                  have hu2 : Own t2 1 u L.length (ofBytes L) := hu.turns (u := bs) ⟨by omega, fun j _ hne => hob j (fun e => hne (by rw [hidb, e]))⟩ (fun j hj => by rw [hidb]; intro e; injection e with e; have := hFu j hj; omega)
                  simp (config := { maxSteps := 1000000, implicitDefEqProofs := false }) (disch := omega) only [quiet_append, alloc_call, aop_call_builtin, wanted_none, get_put, n_put, evalA_tmp, evalAll, builtin_append, Nat.reduceLT, Nat.reduceEqDiff, ↓reduceIte, Bool.false_eq_true, eq_self, LA.wopsS_cons, LA.swant_ite, LA.scall_some, hn]
                  refine LA.sstep_append Try.underlying23 Try.underlying23 (.inl ⟨_, rfl⟩) szU8 byU8 zU8 rfl hu2 hbs.sees.src rfl (by decide) rfl (by have := hS.last; omega) (by have := hS.last; omega) (base := s5.next + 2) hFu (by omega) (fun j hj => ?_) (fun j hj => by have := hAl j hj; omega) ?_
                  · have := hFu j hj
                    cases hAj : A j with
                    | false => rfl
                    | true => have := hAl j hAj; omega
                  intro w3 t3 hw3 hF3 hs3 ht3 hid3
                  have hs3' : Stay s5.next t2 t3 := ht3.keeps (fun j hj => by have := hFu j hj; omega) (by omega)
                  have hnx3 := hs3'.next
                  simp (config := { maxSteps := 1000000, implicitDefEqProofs := false }) (disch := omega) only [quiet_buildSlice, alloc_buildSlice, aop_buildSlice, wanted_none, get_put, n_put, evalA_tmp, partsA, Nat.reduceLT, ↓reduceIte, Bool.false_eq_true, eq_self, LA.wopsS_cons, LA.swant_ite, LA.scall_some, hn, buildV1 Try.underlying58 szSl zSl rfl ⟨_, rfl⟩ hw3.sees.cell1]
                  refine LA.smake_newSlice (base := s5.next) (by rfl) (by omega) (by omega) ?_
                  intro bt t4 hbt hidt hs4 hnx4 ho4
                  have hw4 : Own t4 1 w3 (L.length + 1) (ofBytes L ++ [.int .u8 (X.getD 0 0).toNat]) := hw3.turns (u := bt) ⟨by omega, fun j _ hne => ho4 j (fun e => hne (by rw [hidt, e]))⟩ (fun j hj => by rw [hidt]; intro e; injection e with e; have := hF3 j hj; omega)
                  have hst4 := ((hs1'.trans hsb).trans hs3').trans hs4
                  have hD4 := hD5.stay hst4
                  simp (config := { maxSteps := 1000000, implicitDefEqProofs := false }) (disch := omega) only [quiet_append, alloc_call, aop_call_builtin, wanted_none, get_put, n_put, evalA_tmp, evalAll, builtin_append, Nat.reduceLT, Nat.reduceEqDiff, ↓reduceIte, Bool.false_eq_true, eq_self, LA.wopsS_cons, LA.swant_ite, LA.scall_some, hn]
                  refine LA.sstep_append Try.underlying58 Try.underlying58 (.inl ⟨_, rfl⟩) szSl bySl zSl rfl hD4.tab hbt.sees.src rfl (by decide) (by simp only [List.all_cons, List.all_nil, Bool.and_true]; exact hw3.sees.okCell) (by omega) (by omega) (base := base) hD5.tf (by omega) hAt (fun j hj => by have := hAl j hj; omega) ?_
                  intro tv5 t5 htv5 hF5 hs5 ht5 hid5
                  have hw5 := hw4.turns ht5 (fun j hj e => by have := hF3 j hj; have := hD5.tab.idlt _ e; omega)
                  have eX : X.take 1 = [X.getD 0 0] := take_one_more hXp
                  have hLX : Sees t5 1 w3 (L ++ X.take 1).length (ofBytes (L ++ X.take 1)) := by
                    rw [eX, ofBytes_append, List.length_append]; exact hw5.sees
                  have hEw : Ent t5 i B5 tv5 w3 (L ++ X.take 1) := ⟨hLX, fun e => by have := hF3 _ e; have := hD5.sink.t.lt; omega, fun j hj e => by have := hF3 _ e; have := hD5.sink.o.idlt _ hj; omega, fun j hj e => by
                    rcases hid5 with q | ⟨q1, q2, q3⟩
                    · rw [q] at hj; have := hF3 _ e; have := hD5.tab.idlt _ hj; omega
                    · rw [q2] at hj; injection hj with hj; subst hj
                      have := hw4.idlt _ e; omega⟩
                  have hD6 := hD5.tabbed hst4 htv5 hF5 ht5 hid5 (by simp [hL]) hEw
                  have hE6 := hE5.tab hX0 hst4 ht5 hid5
                  have hst6 := (hst5.trans (hst4.weaken hb5)).trans (ht5.keeps hD5.tf (Nat.le_trans hb5 hst4.next))
                  simp (config := { maxSteps := 1000000, implicitDefEqProofs := false }) (disch := omega) only [wcode_region, wthen_normal, wblk_normal, wops_nil, wops_cons, wwant_true, wstep_val, aop_move, aop_assign, aop_binOp, wanted_none, get_put, n_put, evalA_tmp, evalA_int, vOf_some, bin_add, quiet_assign, Nat.reduceLT, Nat.reduceEqDiff, ↓reduceIte, and_self, eq_self, LA.wopsS_nil, LA.wopsS_cons, LA.swant_ite, LA.slook_val, LA.scall_some, LA.low_assign, hn, h9, h13, htv5.self, wrapI]
                  refine wround_next z (by omega) (fin _ _ tv5 _ _ hgr (hD6.lasted hX0 hE6) hst6 (by simp only [n_put, hn]) (by simp only [get_put, ↓reduceIte, Nat.reduceEqDiff, h0]) (by simp only [get_put, ↓reduceIte, Nat.reduceEqDiff, h6]) (by simp only [get_put, ↓reduceIte, Nat.reduceEqDiff]) (by simp only [get_put, ↓reduceIte]) ?_ (by simp only [get_put, ↓reduceIte, Nat.reduceEqDiff, h10]))
                  simp only [get_put, ↓reduceIte, Nat.reduceEqDiff]
                  congr 1
                  simp only [List.length_append, List.length_singleton]; omega
                · have hgr : T = grow T L X := by unfold grow; rw [if_neg gr]
                  by_cases hL : L = []
                  · have hlv : lv = .slice none 0 0 := by
                      rcases hD5.last with e | e
                      · exact e.2
                      · exact absurd hL e.1
                    have h8n : f.get 8 = .slice none 0 0 := by rw [h8, hlv]
                    have hnl := (Sees.nil (s := s5) (z := 1)).neq_nil (P := Try.prog) Try.underlying23
                    rw [isNilS_nil] at hnl
                    simp (config := { maxSteps := 1000000, implicitDefEqProofs := false }) (disch := omega) only [wcode_skip, wcode_region, wcode_seq, wthen_normal, wcode_cond, wcond_bool, wif_false, wblk_normal, wblk_exit, wops_nil, wops_cons, wwant_true, wstep_val, wwant_false_some, aop_move, aop_assign, aop_pick, aop_binOp, wanted_none, wanted_some, yieldA_eq, yieldOf_cons, get_put, n_put, evalA_tmp, evalA_bool, evalA_snil, vOf_some, List.drop_zero, List.drop_succ_cons, Nat.reduceLT, Nat.reduceEqDiff, ↓reduceIte, Bool.false_eq_true, beq_true, Bool.not_true, eq_self, undef, hn, h8n, h13, hnl]
                    exact wround_next z (by omega) (fin _ _ tv _ _ hgr (hD5.lasted hX0 hE5) hst5 (by simp only [n_put, hn]) (by simp only [get_put, ↓reduceIte, Nat.reduceEqDiff, h0]) (by simp only [get_put, ↓reduceIte, Nat.reduceEqDiff, h6]) (by simp only [get_put, ↓reduceIte, Nat.reduceEqDiff, h7]) (by simp only [get_put, ↓reduceIte]) (by simp only [get_put, ↓reduceIte, Nat.reduceEqDiff, h9]) (by simp only [get_put, ↓reduceIte, Nat.reduceEqDiff, h10]))
                  · obtain ⟨_, hE⟩ := hD5.last.resolve_left (fun e => hL e.1)
                    have hLp := List.length_pos_iff.mpr hL
                    have hnl := hE.see.neq_nil (P := Try.prog) Try.underlying23
                    rw [hE.see.notNil hLp] at hnl
                    have cT : ¬ ((258 + T.length : Nat) : Int) < 4096 := by
                      intro e; exact gr ⟨hL, by omega⟩
                    simp (config := { maxSteps := 1000000, implicitDefEqProofs := false }) (disch := omega) only [wcode_skip, wcode_region, wcode_seq, wthen_normal, wcode_cond, wcond_bool, wif_false, wblk_normal, wblk_exit, wops_nil, wops_cons, wwant_true, wstep_val, aop_move, aop_assign, aop_pick, aop_binOp, wanted_none, wanted_some, yieldA_eq, yieldOf_cons, get_put, n_put, evalA_tmp, evalA_bool, evalA_int, evalA_snil, vOf_some, bin_lss, List.drop_zero, List.drop_succ_cons, Nat.reduceLT, Nat.reduceEqDiff, ↓reduceIte, decide_false, beq_self_eq_true, Bool.not_false, eq_self, hn, h8, h9, h13, hnl, eq_false cT]
                    exact wround_next z (by omega) (fin _ _ tv _ _ hgr (hD5.lasted hX0 hE5) hst5 (by simp only [n_put, hn]) (by simp only [get_put, ↓reduceIte, Nat.reduceEqDiff, h0]) (by simp only [get_put, ↓reduceIte, Nat.reduceEqDiff, h6]) (by simp only [get_put, ↓reduceIte, Nat.reduceEqDiff, h7]) (by simp only [get_put, ↓reduceIte]) (by simp only [get_put, ↓reduceIte, Nat.reduceEqDiff, h9]) (by simp only [get_put, ↓reduceIte, Nat.reduceEqDiff, h10]))
end Go.Proofs.Ytoddiggebjbnnaa
