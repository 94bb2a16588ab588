/-
  LZW, writing: the program's Encode.
-/
import Derived.Test.YtoddiggebjbnnaaLzwU
import Derived.Test.YtoddiggebjbnnaaLzwF
import Derived.Test.YtoddiggebjbnnaaStr
import Derived.Test.YtoddiggebjbnnaaLzwD
set_option linter.unusedSimpArgs false
set_option linter.unusedVariables false
namespace Go.Proofs.Ytoddiggebjbnnaa
open Go.Cl Go.Cl.Lz Go.Cl.Rw
theorem wbits_half : ∀ (L : List Nat) (p : List UInt8 × List Nat), (∀ x ∈ L, x < 2) → Half p → Half (wbits p L)
  | [], p, _, h => h
  | b :: L, p, hL, h => by
    show Half (wbits (wone p b) L)
    exact wbits_half L _ (fun x hx => hL x (List.mem_cons_of_mem _ hx)) (wone_half h (hL b (List.mem_cons_self ..)))
theorem wbits_len : ∀ (L : List Nat) (p : List UInt8 × List Nat), (wbits p L).1.length ≤ p.1.length + L.length
  | [], p => by simp [wbits]
  | b :: L, p => by
    show (wbits (wone p b) L).1.length ≤ _
    have h1 := wbits_len L (wone p b)
    have h2 := wone_len p b
    simp only [List.length_cons]; omega
theorem wbits_append (p : List UInt8 × List Nat) (L M : List Nat) : wbits p (L ++ M) = wbits (wbits p L) M := List.foldl_append ..
theorem half0 : Half ([], []) := ⟨by simp, fun i => by simp⟩
theorem WrTo.stay {base : Nat} {s s' : ASt} {j : Nat} {v bv v' bv' : Value} {q : List UInt8 × List Nat} {next : Nat} {begun : Bool} (h : Wr base s j v bv q next begun) (k : WrTo j v bv s v' bv' s') (hb : base ≤ s.next) : Stay base s s' :=
  ⟨k.next, fun i hi => k.get i (by omega) (by have := h.row.lo; omega) (fun e => by have := h.row.fresh i e; omega) (fun e => by have := h.bf i e; omega)⟩
structure EncAt (base : Nat) (s : ASt) (j r : Nat) (v bv : Value) (q : List UInt8 × List Nat) (T : Tab) (next : Nat) (begun : Bool) : Prop where
  wr : Wr base s j v bv q next begun
  map : MapIs s r T
  rj : r ≠ j
  rv : idOf v ≠ some r
  rb : idOf bv ≠ some r
  lo : base ≤ r
section
variable {base : Nat} {s s' : ASt} {j r : Nat} {v bv v' bv' : Value} {q q' : List UInt8 × List Nat} {T : Tab} {next next' : Nat} {begun begun' : Bool}
theorem EncAt.wrote (h : EncAt base s j r v bv q T next begun) (hw : Wr base s' j v' bv' q' next' begun') (k : WrTo j v bv s v' bv' s') : EncAt base s' j r v' bv' q' T next' begun' := by
  have hlt := h.map.lt
  refine ⟨hw, ⟨Nat.lt_of_lt_of_le hlt k.next, ?_⟩, h.rj, ?_, ?_, h.lo⟩
  · have := h.map.map
    simp only [ASt.map?, k.get r hlt h.rj h.rv h.rb] at this ⊢
    exact this
  · rcases k.iv with e | ⟨i, e, hi⟩
    · rw [e]; exact h.rv
    · rw [e]; intro q; injection q with q; omega
  · rcases k.ib with e | e | ⟨i, e, hi⟩
    · rw [e]; intro q; cases q
    · rw [e]; exact h.rb
    · rw [e]; intro q; injection q with q; omega
theorem EncAt.put {T' : Tab} (h : EncAt base s j r v bv q T next begun) (hm : MapIs s' r T') (hn : s'.next = s.next) (hs : ∀ i, i ≠ r → s'.heap.get i = s.heap.get i) : EncAt base s' j r v bv q T' next begun := by
  have ht : Turns (.pointer (some ⟨r, 0, some 0⟩)) s s' := Turns.ofPut hn hs
  refine ⟨⟨⟨h.wr.row.thing.turns ht (fun e => h.rj (by injection e)), h.wr.row.own.ofPut hn hs h.rv, h.wr.row.fresh, h.wr.row.ne, h.wr.row.lo, h.wr.row.ok⟩, h.wr.bits.ofPut hn hs h.rb, h.wr.bf, h.wr.bj, h.wr.bx⟩, hm, h.rj, h.rv, h.rb, h.lo⟩
theorem EncAt.fresh {r' : Nat} (h : Wr base s j v bv q next begun) (hb : base ≤ s.next) (hm : MapIs s' s.next []) (k : Stay s.next s s') : EncAt base s' j s.next v bv q [] next begun := by
  refine ⟨⟨⟨h.row.thing.keeps k, h.row.own.keeps k, h.row.fresh, h.row.ne, h.row.lo, h.row.ok⟩, h.bits.keeps k, h.bf, h.bj, h.bx⟩, hm, ?_, ?_, ?_, hb⟩
  · have := h.row.thing.lt; omega
  · intro e; have := h.row.own.idlt _ e; omega
  · intro e; have := h.bits.idlt _ e; omega
end
theorem bWriter : buildA Try.prog 50 [(2, .int .i64 258)] = some (.agg #[.slice none 0 0, .int .i64 0, .slice none 0 0, .int .i64 258, .bool false]) := by kernel_rfl
theorem NewBytes.after {s s1 s' : ASt} {w : Value} {l : List UInt8} {base : Nat} (h : NewBytes s1 w s' l) (k : Stay base s s1) (hb : base = s.next) : NewBytes s w s' l := by
  subst hb
  exact ⟨h.own, fun i hi => Nat.le_trans k.next (h.fresh i hi), k.trans (h.stay.weaken k.next)⟩
end Go.Proofs.Ytoddiggebjbnnaa

namespace Go.Proofs.Ytoddiggebjbnnaa
open Go.Cl Go.Cl.Lz Go.Cl.Rw
theorem mapNew (s : ASt) : MapIs (s.new (.map [])) s.next [] := by
  refine ⟨by rw [next_new]; omega, ?_⟩
  simp only [ASt.map?, ASt.new, Tr.get_set_self _ _ _ _ (deep (by omega))]
  rfl
theorem extr0 (a b : Value) : extractA (.tuple #[a, b]) 0 = some a := rfl
theorem extr1 (a b : Value) : extractA (.tuple #[a, b]) 1 = some b := rfl
theorem uMap : Try.prog.underlying 52 = some (.map 9 3) := Try.underlying52
theorem cutTake {l : List UInt8} {n : Nat} : (l.drop 0).take (n - 0) = l.take n := by rw [List.drop_zero, Nat.sub_zero]
theorem cutDrop {l : List UInt8} {n : Nat} : (l.drop n).take (l.length - n) = l.drop n := List.take_of_length_le (by rw [List.length_drop]; omega)
theorem Low.cutB {base : Nat} {s : ASt} {v : Value} {l : List UInt8} (h : Low base s 1 v l.length (ofBytes l)) {lo hi : Nat} (h1 : lo ≤ hi) (h2 : hi ≤ l.length) : Low base s 1 (cutS 1 v lo hi) ((l.drop lo).take (hi - lo)).length (ofBytes ((l.drop lo).take (hi - lo))) := fun s' k => (h s' k).cutB h1 h2
/-- The code that stands for what is found, and what is known of it then. -/
theorem next_code {c : Nat} (h6 : c ≠ 256) (h7 : c ≠ 257) (rd : Nat) (fst : Bool) : nextOf c rd (!fst) = rdOf rd fst ∧ begunOf c (!fst) = true := by
  unfold nextOf begunOf rdOf
  rw [if_neg h6, if_neg h7, if_neg h6, if_neg h7]
  cases fst <;> exact ⟨rfl, rfl⟩
theorem wone_zero {q : List UInt8 × List Nat} (h0 : q.2 ≠ []) (h7 : q.2.length ≤ 7) : (wone q 0).1 ++ pack (wone q 0).2 = q.1 ++ pack q.2 := by
  have hz := byte8_zeros q.2 1
  rw [show List.replicate 1 0 = [0] from rfl] at hz
  unfold wone
  by_cases h : q.2.length = 7
  · rw [if_pos h]
    simp only
    rw [pack_nil, List.append_nil, hz, pack_begun h0 (by omega)]
  · rw [if_neg h]
    simp only
    rw [pack_begun h0 (by omega), pack_begun (by simp) (by rw [List.length_append, List.length_singleton]; omega), hz]
set_option maxRecDepth 100000 in
set_option maxHeartbeats 8000000 in
theorem encode_any {lib : Prims} (hl : lib.at 11 = none) (hlc : lib.at 17 = none) (hlw : lib.at 27 = none) (hlbit : lib.at 18 = none) (hlp : lib.at 30 = none) (hlb : lib.at 32 = none) (hlby : lib.at 19 = none) (hlcl : lib.at 31 = none) (s : ASt) (x : Value) (b : List UInt8) (hx : Sees s 1 x b.length (ofBytes b)) (hb : b.length ≤ 10000) :
    Runs Try.prog lib 11 [x] s fun w s' => NewBytes s w s' (lzw b) := by
  obtain ⟨base, hbase⟩ : ∃ base, base = s.next := ⟨_, rfl⟩
  have hx0 : Low base s 1 x b.length (ofBytes b) := by rw [hbase]; exact hx.low
  have hbl : base ≤ s.next := by omega
  have hD : ∀ (D E : List Nat), alls b = D ++ E → Half (wbits ([], []) D) ∧ (wbits ([], []) D).1.length ≤ 1000000 := fun D E h => by
    refine ⟨wbits_half _ _ (fun x hx => alls_bit b x (by rw [h]; exact List.mem_append_left _ hx)) half0, ?_⟩
    have h1 := wbits_len D ([], [])
    have h2 := alls_len b
    rw [h, List.length_append] at h2
    simp only [List.length_nil] at h1; omega
  refine Runs.enter 80 Try.func11 rfl hl rfl rfl ?_
  intro f hn hf
  have h0 : f.get 0 = x := hf 0
  clear hf
  simp (config := { maxSteps := 1000000, implicitDefEqProofs := false }) (disch := omega) only [wcode_region, wcode_seq, wthen_normal, wops_nil, wops_cons, wwant_true, wstep_val, aop_assign, aop_box, aop_build, wanted_none, get_put, n_put, evalA_tmp, evalA_int, evalA_snil, partsA, cells_agg, vOf_some, Nat.reduceLT, ↓reduceIte, eq_self, hn, bWriter]
  refine wstep_newPtr ?_
  intro s1 hth hst1 hnx1
  obtain ⟨j, hj⟩ : ∃ j, j = s.next := ⟨_, rfl⟩
  rw [← hj] at hth
  have hW1 : Wr base s1 j (.slice none 0 0) (.slice none 0 0) ([], []) 258 false := ⟨⟨hth, .nil, Fresh.nil _, (fun e => by cases e), by omega, ⟨Nat.le_refl _, by simp⟩⟩, .nil, Fresh.nil _, (fun e => by cases e), fun _ e => by cases e⟩
  have hb1 : base ≤ s1.next := by omega
  simp (config := { maxSteps := 1000000, implicitDefEqProofs := false }) (disch := omega) only [wcode_region, wcode_seq, wthen_normal, wops_nil, wops_cons, wwant_true, wstep_val, wstep_call, aop_move, aop_assign, aop_call_value, wanted_none, get_put, n_put, evalA_tmp, evalA_int, evalA_func, evalAll, vOf_some, List.cons_append, List.nil_append, Nat.reduceLT, Nat.reduceAdd, Nat.zero_add, ↓reduceIte, eq_self, hn, List.length_cons, List.length_nil]
  rw [← hj]
  refine (wcode_any hlc hlw hlbit hlp hlb base s1 j _ _ ([], []) 258 false 256 hW1 hb1 half0 (by simp) (by omega) (by omega)).mono ?_
  rintro _ s2 ⟨v2, b2, hW2, hto2⟩
  have hst2 := hto2.stay hW1 hb1
  have hb2 : base ≤ s2.next := Nat.le_trans hb1 hst2.next
  obtain ⟨s3, hs3⟩ : ∃ s3, s3 = s2.new (.map []) := ⟨_, rfl⟩
  have hm3 : MapIs s3 s2.next [] := by rw [hs3]; exact mapNew s2
  have hst3 : Stay s2.next s2 s3 := by rw [hs3]; exact Stay.new s2 _
  have hE3 : EncAt base s3 j s2.next v2 b2 (wbits ([], []) (cbits 256 9)) [] 258 false := EncAt.fresh (r' := 0) hW2 hb2 hm3 hst3
  have hS3 : Stay base s s3 := ((hst1.weaken hbl).trans hst2).trans (hst3.weaken hb2)
  have hx3 := hx0.stay hS3
  simp (config := { maxSteps := 1000000, implicitDefEqProofs := false }) (disch := omega) only [wcode_region, wcode_seq, wthen_normal, wcode_block, wcode_loop, wops_nil, wops_cons, wwant_true, wstep_val, wcall_some, aop_assign, aop_makeMap, wanted_none, get_put, n_put, evalA_tmp, vOf_some, Nat.reduceLT, ↓reduceIte, eq_self, hn]
  rw [← hs3]
  refine Comes.loopOut (fun z f s' => ∃ (k : Nat) (l : List UInt8) (T : Tab) (rd : Nat) (fst : Bool) (D : List Nat) (r : Nat) (v bv xv : Value), z = l.length ∧ l.length < k ∧ l.length ≤ b.length ∧ alls b = D ++ enc k l T rd fst ∧ Lz.Good T ∧ rd ≤ 4096 ∧ EncAt base s' j r v bv (wbits ([], []) D) T rd (!fst) ∧ Stay base s s' ∧ Low base s' 1 xv l.length (ofBytes l) ∧ f.n = 80 ∧ f.get 0 = xv ∧ f.get 3 = xwptr j ∧ f.get 4 = .map (some r))
    (fun y f s' => y = .exit 0 ∧ ∃ (rd : Nat) (begun : Bool) (D : List Nat) (v bv : Value), rd ≤ 4096 ∧ alls b = D ++ cbits 257 (width rd) ∧ Wr base s' j v bv (wbits ([], []) D) rd begun ∧ Stay base s s' ∧ f.n = 80 ∧ f.get 3 = xwptr j)
    ⟨b.length + 1, b, [], 258, true, cbits 256 9, s2.next, v2, b2, x, rfl, by omega, by omega, rfl, Lz.Good.nil, by omega, hE3, hS3, hx3, by simp only [n_put, hn], by simp only [get_put, ↓reduceIte, Nat.reduceEqDiff, h0], by simp only [get_put, ↓reduceIte, Nat.reduceEqDiff], by simp only [get_put, ↓reduceIte]⟩ ?_ ?_
  · clear hn h0 f hE3 hS3 hx3 hm3 hst3 hs3 s3 hW2 hto2 hst2 hb2 hW1 hb1 hth hst1 hnx1 s1 hx0 v2 b2 s2
    rintro Q hQ z f s4 ⟨k, l, T, rd, fst, D, r, v, bv, xv, rfl, hk, hlbb, hall, hG, hrd, hE, hS, hL, hn, h0, h3, h4⟩
    have hbs := Nat.le_trans hbl hS.next
    have hLs := hL.sees
    by_cases hl0 : l = []
    · subst hl0
      have c1 : ¬ (0 : Int) < ((([] : List UInt8).length : Nat) : Int) := by simp
      simp (config := { maxSteps := 1000000, implicitDefEqProofs := false }) (disch := omega) only [wcode_region, wcode_seq, wthen_normal, wthen_exit, wcode_cond, wcond_bool, wif_false, wcode_exit, wops_nil, wops_cons, wwant_true, wstep_val, wround_exit, aop_move, aop_binOp, aop_call_builtin, wanted_none, get_put, n_put, evalA_tmp, evalA_int, evalAll, vOf_some, builtin_len, bin_gtr, Nat.reduceLT, ↓reduceIte, decide_false, eq_self, hn, h0, hLs.lenA Try.underlying23, eq_false c1]
      rw [enc_end] at hall
      exact hQ _ _ _ ⟨rfl, rd, _, D, v, bv, hrd, hall, hE.wr, hS, by simp only [n_put, hn], by simp only [get_put, ↓reduceIte, Nat.reduceEqDiff, h3]⟩
    · have hpos : 0 < l.length := List.length_pos_iff.mpr hl0
      have c1 : (0 : Int) < (l.length : Int) := by omega
      obtain ⟨p, hp⟩ : ∃ p, p = best l T (1, ((l.getD 0 0).toNat : Int)) := ⟨_, rfl⟩
      have hF := hG.found hl0
      rw [← hp] at hF
      have hc256 : ((l.getD 0 0).toNat : Int) < 256 := by have := (l.getD 0 0).toNat_lt; omega
      simp (config := { maxSteps := 1000000, implicitDefEqProofs := false }) (disch := omega) only [wcode_skip, wcode_region, wcode_draw, wdraw_true, wcode_seq, wthen_normal, wcode_cond, wcond_bool, wif_true, wcode_block, wcode_loop, wops_nil, wops_cons, wwant_true, wstep_val, wquiet_nil, wquiet_cons, wasks_true, wlook_val, aop_move, aop_assign, aop_load, aop_binOp, aop_convert, aop_indexAddr, aop_call_builtin, wanted_none, get_put, n_put, evalA_tmp, evalA_int, evalAll, vOf_some, pOf_some, builtin_len, bin_gtr, valEq_int, valEq_elemPtr, allQuiet_nil, allQuiet_cons, quiet_move, quiet_assign, quiet_load, quiet_indexAddr, quiet_convert, Nat.reduceLT, Nat.reduceEqDiff, ↓reduceIte, and_self, Bool.and_true, decide_true, eq_self, hn, h0, hLs.lenA Try.underlying23, eq_true c1, Try.underlying3, hLs.self, hLs.indexAddr Try.underlying23 szU8, hLs.load1 agU8, ofBytes_getD, conv_int Try.underlying5 Try.underlying3, wrapI, Int.toNat_zero]
      refine Comes.loopOut (fun z f s' => ∃ (n : Nat) (c : Int), z = l.length - n ∧ 1 ≤ n ∧ n ≤ l.length ∧ ext T l (l.length - n) n c = p ∧ f.n = 80 ∧ f.get 0 = xv ∧ f.get 3 = xwptr j ∧ f.get 4 = .map (some r) ∧ f.get 5 = .int .i64 n ∧ f.get 6 = .int .i64 c ∧ s' = s4)
        (fun y f s' => y = .exit 2 ∧ f.n = 80 ∧ f.get 0 = xv ∧ f.get 3 = xwptr j ∧ f.get 4 = .map (some r) ∧ f.get 5 = .int .i64 p.1 ∧ f.get 6 = .int .i64 p.2 ∧ s' = s4)
        ⟨1, ((l.getD 0 0).toNat : Int), rfl, by omega, by omega, hF.eq, by simp only [n_put, hn], by simp only [get_put, ↓reduceIte, Nat.reduceEqDiff, h0], by simp only [get_put, ↓reduceIte, Nat.reduceEqDiff, h3], by simp only [get_put, ↓reduceIte, Nat.reduceEqDiff, h4], by simp only [get_put, ↓reduceIte, Nat.reduceEqDiff]; rfl, by simp only [get_put, ↓reduceIte], rfl⟩ ?_ ?_
      · clear hn h0 h3 h4 f
        rintro Q2 hQ2 z f _ ⟨n, c, rfl, hn1, hnl, hext, hn, h0, h3, h4, h5, h6, rfl⟩
        by_cases hlt : n < l.length
        · have c2 : (n : Int) < (l.length : Int) := by omega
          have e1 : ((n : Int) + 1).toNat = n + 1 := by omega
          have hcut := hLs.cutB (lo := 0) (hi := n + 1) (by omega) (by omega)
          rw [cutTake] at hcut
          simp (config := { maxSteps := 1000000, implicitDefEqProofs := false }) (disch := omega) only [wcode_skip, wcode_region, wcode_seq, wthen_normal, wcode_cond, wcond_bool, wif_true, wcode_block, wops_nil, wops_cons, wwant_true, wstep_val, aop_move, aop_binOp, aop_convert, aop_slice, aop_lookup, aop_extract, aop_call_builtin, wanted_none, get_put, n_put, evalA_tmp, evalA_int, evalAll, optA, vOf_some, pOf_some, builtin_len, bin_add, bin_lss, Nat.reduceLT, Nat.reduceEqDiff, ↓reduceIte, decide_true, eq_self, hn, h0, h4, h5, hLs.lenA Try.underlying23, eq_true c2, wrapI, hLs.sliceHigh Try.underlying23 szU8, e1, hcut.str Try.underlying23 Try.underlying9 Try.underlying5, hE.map.lookup uMap Try.underlying9 zInt]
          have hxs : ext T l (l.length - n) n c = (match seek (l.take (n + 1)) T with | some x => ext T l (l.length - (n + 1)) (n + 1) x | none => (n, c)) := by
            rw [show l.length - n = (l.length - (n + 1)) + 1 by omega, ext]
            rfl
          rw [hxs] at hext
          cases hsk : seek (l.take (n + 1)) T with
          | none =>
            rw [hsk] at hext
            obtain rfl : p = (n, c) := hext.symm
            simp (config := { maxSteps := 1000000, implicitDefEqProofs := false }) (disch := omega) only [wcode_region, wcode_seq, wthen_normal, wthen_exit, wcode_cond, wcond_bool, wif_true, wblk_exit, wcode_exit, wops_nil, wops_cons, wwant_true, wstep_val, wround_exit, aop_move, aop_assign, aop_unOp, aop_extract, wanted_none, get_put, n_put, evalA_tmp, vOf_some, un_not, Nat.reduceLT, Nat.reduceEqDiff, ↓reduceIte, Bool.not_false, eq_self, hn, extr0, extr1, Option.getD_none, Option.isSome_none]
            exact hQ2 _ _ _ ⟨rfl, by simp only [n_put, hn], by simp only [get_put, ↓reduceIte, Nat.reduceEqDiff, h0], by simp only [get_put, ↓reduceIte, Nat.reduceEqDiff, h3], by simp only [get_put, ↓reduceIte, Nat.reduceEqDiff, h4], by simp only [get_put, ↓reduceIte, Nat.reduceEqDiff, h5], by simp only [get_put, ↓reduceIte, Nat.reduceEqDiff, h6], rfl⟩
          | some y =>
            rw [hsk] at hext
            simp (config := { maxSteps := 1000000, implicitDefEqProofs := false }) (disch := omega) only [wcode_skip, wcode_region, wcode_seq, wthen_normal, wcode_cond, wcond_bool, wif_false, wblk_normal, wops_nil, wops_cons, wwant_true, wstep_val, aop_move, aop_assign, aop_binOp, aop_unOp, aop_extract, wanted_none, get_put, n_put, evalA_tmp, evalA_int, vOf_some, bin_add, un_not, Nat.reduceLT, Nat.reduceEqDiff, ↓reduceIte, Bool.not_true, eq_self, hn, h5, extr0, extr1, Option.getD_some, Option.isSome_some, wrapI]
            refine wround_next (l.length - (n + 1)) (by omega) ⟨n + 1, y, rfl, by omega, by omega, hext, by simp only [n_put, hn], by simp only [get_put, ↓reduceIte, Nat.reduceEqDiff, h0], by simp only [get_put, ↓reduceIte, Nat.reduceEqDiff, h3], by simp only [get_put, ↓reduceIte, Nat.reduceEqDiff, h4], by simp only [get_put, ↓reduceIte, Nat.reduceEqDiff]; rfl, by simp only [get_put, ↓reduceIte], rfl⟩
        · obtain rfl : n = l.length := by omega
          have c2 : ¬ (l.length : Int) < (l.length : Int) := by omega
          rw [Nat.sub_self] at hext
          simp (config := { maxSteps := 1000000, implicitDefEqProofs := false }) (disch := omega) only [wcode_region, wcode_seq, wthen_normal, wthen_exit, wcode_cond, wcond_bool, wif_false, wcode_exit, wops_nil, wops_cons, wwant_true, wstep_val, wround_exit, aop_move, aop_binOp, aop_call_builtin, wanted_none, get_put, n_put, evalA_tmp, evalAll, vOf_some, builtin_len, bin_lss, Nat.reduceLT, Nat.reduceEqDiff, ↓reduceIte, decide_false, eq_self, hn, h0, h5, hLs.lenA Try.underlying23, eq_false c2]
          obtain rfl : p = (l.length, c) := hext.symm
          exact hQ2 _ _ _ ⟨rfl, by simp only [n_put, hn], by simp only [get_put, ↓reduceIte, Nat.reduceEqDiff, h0], by simp only [get_put, ↓reduceIte, Nat.reduceEqDiff, h3], by simp only [get_put, ↓reduceIte, Nat.reduceEqDiff, h4], by simp only [get_put, ↓reduceIte, Nat.reduceEqDiff, h5], by simp only [get_put, ↓reduceIte, Nat.reduceEqDiff, h6], rfl⟩
      · clear hn h0 h3 h4 f
        rintro _ f _ ⟨rfl, hn, h0, h3, h4, h5, h6, rfl⟩
        obtain ⟨c, hc⟩ : ∃ c : Nat, p.2 = (c : Int) := ⟨p.2.toNat, by have := hF.lo; omega⟩
        have hcn : p.2.toNat = c := by omega
        have hc6 : c ≠ 256 := by have := hF.n6; omega
        have hc7 : c ≠ 257 := by have := hF.n7; omega
        have hcm : c < 1000000 := by have := hF.hi; omega
        obtain ⟨hd1, hd2⟩ := hD _ _ hall
        rw [hc] at h6
        simp (config := { maxSteps := 1000000, implicitDefEqProofs := false }) (disch := omega) only [wcode_region, wcode_seq, wthen_normal, wblk_exit, wops_cons, wwant_true, wstep_val, wstep_call, aop_move, aop_call_value, wanted_none, get_put, n_put, evalA_tmp, evalA_func, evalAll, vOf_some, List.cons_append, List.nil_append, Nat.reduceLT, Nat.reduceEqDiff, ↓reduceIte, eq_self, hn, h3, h6]
        refine (wcode_any hlc hlw hlbit hlp hlb base _ j v bv (wbits ([], []) D) rd (!fst) c hE.wr hbs hd1 hd2 hcm hrd).mono ?_
        rintro _ s5 ⟨v5, b5, hW5, hto5⟩
        obtain ⟨e5, e6⟩ := next_code hc6 hc7 rd fst
        rw [e5, e6, ← wbits_append] at hW5
        have hE5 := hE.wrote hW5 hto5
        have hst5 := hto5.stay hE.wr hbs
        have hb5 : base ≤ s5.next := Nat.le_trans hbs hst5.next
        have hL5 := hL.stay hst5
        have hLs5 := hL5.sees
        have hS5 := hS.trans hst5
        have hrd5 := rdOf_le hrd fst
        have hp1 := hF.one
        have hp2 := hF.le
        have hcd := Low.cutB hL5 (lo := p.1) (hi := l.length) hp2 (Nat.le_refl _)
        rw [cutDrop] at hcd
        have hdl : (l.drop p.1).length = l.length - p.1 := List.length_drop
        by_cases hlt : p.1 < l.length
        · have c2 : (p.1 : Int) < (l.length : Int) := by omega
          have hcut := hLs5.cutB (lo := 0) (hi := p.1 + 1) (by omega) (by omega)
          rw [cutTake] at hcut
          have e1 : ((p.1 : Int) + 1).toNat = p.1 + 1 := by omega
          have hTl := hG.len
          simp (config := { maxSteps := 1000000, implicitDefEqProofs := false }) (disch := omega) only [wcode_region, wcode_seq, wthen_normal, wcode_cond, wcond_bool, wif_true, wops_nil, wops_cons, wwant_true, wstep_val, wcall_some, aop_move, aop_assign, aop_binOp, aop_convert, aop_slice, aop_mapUpdate, aop_call_builtin, wanted_none, get_put, n_put, evalA_tmp, evalA_int, evalAll, optA, vOf_some, pOf_some, builtin_len, bin_add, bin_lss, Nat.reduceLT, Nat.reduceEqDiff, ↓reduceIte, decide_true, eq_self, hn, h0, h4, h5, hLs5.lenA Try.underlying23, eq_true c2, hE5.map.len uMap, wrapI, hLs5.sliceHigh Try.underlying23 szU8, e1, hcut.str Try.underlying23 Try.underlying9 Try.underlying5]
          refine wstep_mapUpdate uMap Try.underlying9 hE5.map (l.take (p.1 + 1)) (258 + (T.length : Int)) (hF.seek hlt) ?_
          intro s6 hm6 hn6 hs6
          have hE6 := hE5.put hm6 hn6 hs6
          have hst6 : Stay base s5 s6 := Stay.ofPut hn6 hs6 hE5.lo
          have hb6 : base ≤ s6.next := Nat.le_trans hb5 hst6.next
          have hL6 := hL5.stay hst6
          by_cases cx : 258 + T.length = 4095
          · have cx' : (258 : Int) + (T.length : Int) = 4095 := by omega
            have hall6 := hall
            rw [show k = (k - 1) + 1 by omega, enc_clear hl0 hp hlt cx, hcn, ← List.append_assoc] at hall6
            obtain ⟨hd5, hd6⟩ := hD _ _ hall6
            simp (config := { maxSteps := 1000000, implicitDefEqProofs := false }) (disch := omega) only [wcode_region, wcode_seq, wthen_normal, wcode_cond, wcond_bool, wif_true, wops_nil, wops_cons, wwant_true, wstep_val, wstep_val_none, wstep_call, aop_move, aop_binOp, aop_call_value, wanted_none, get_put, n_put, evalA_tmp, evalA_int, evalA_func, evalAll, vOf_some, bin_eql, List.cons_append, List.nil_append, Nat.reduceLT, Nat.reduceEqDiff, ↓reduceIte, decide_true, eq_self, hn, h3, eq_true cx']
            refine (wcode_any hlc hlw hlbit hlp hlb base _ j v5 b5 _ (rdOf rd fst) true 256 hE6.wr hb6 hd5 hd6 (by omega) hrd5).mono ?_
            rintro _ s7 ⟨v7, b7, hW7, hto7⟩
            have hst7 := hto7.stay hE6.wr hb6
            have hb7 : base ≤ s7.next := Nat.le_trans hb6 hst7.next
            rw [← wbits_append] at hW7
            obtain ⟨s8, hs8⟩ : ∃ s8, s8 = s7.new (.map []) := ⟨_, rfl⟩
            have hm8 : MapIs s8 s7.next [] := by rw [hs8]; exact mapNew s7
            have hst8 : Stay s7.next s7 s8 := by rw [hs8]; exact Stay.new s7 _
            have hE8 := EncAt.fresh (r' := 0) hW7 hb7 hm8 hst8
            have hL8 := (hL6.stay hst7).stay (hst8.weaken hb7)
            have hLs8 := hL8.sees
            have hcd8 : Low base s8 1 (cutS 1 xv p.1 l.length) (l.drop p.1).length (ofBytes (l.drop p.1)) := ((hcd.stay hst6).stay hst7).stay (hst8.weaken hb7)
            simp (config := { maxSteps := 1000000, implicitDefEqProofs := false }) (disch := omega) only [wcode_region, wthen_normal, wops_nil, wops_cons, wwant_true, wstep_val, wcall_some, aop_move, aop_assign, aop_makeMap, aop_slice, wanted_none, get_put, n_put, evalA_tmp, optA, vOf_some, Nat.reduceLT, Nat.reduceEqDiff, ↓reduceIte, eq_self, hn, h0, h5]
            rw [← hs8]
            simp (config := { maxSteps := 1000000, implicitDefEqProofs := false }) (disch := omega) only [wblk_normal, wops_nil, wops_cons, wwant_true, wstep_val, aop_assign, wanted_none, get_put, n_put, evalA_tmp, vOf_some, Nat.reduceLT, ↓reduceIte, Int.toNat_natCast, eq_self, hn, hLs8.sliceLow Try.underlying23 szU8, Int.toNat_natCast]
            refine wround_next (l.drop p.1).length (by omega) ⟨k - 1, l.drop p.1, [], 258, true, _, s7.next, v7, b7, cutS 1 xv p.1 l.length, rfl, by omega, by omega, by rw [List.append_assoc] at hall6 ⊢; rw [List.append_assoc]; exact hall6, Lz.Good.nil, by omega, hE8, ((hS5.trans hst6).trans hst7).trans (hst8.weaken hb7), hcd8, by simp only [n_put, hn], by simp only [get_put, ↓reduceIte], by simp only [get_put, ↓reduceIte, Nat.reduceEqDiff, h3], by simp only [get_put, ↓reduceIte, Nat.reduceEqDiff]⟩
          · have cx' : ¬ (258 : Int) + (T.length : Int) = 4095 := by omega
            have hall6 := hall
            rw [show k = (k - 1) + 1 by omega, enc_more hl0 hp hlt cx, hcn, ← List.append_assoc] at hall6
            have hLs6 := hL6.sees
            simp (config := { maxSteps := 1000000, implicitDefEqProofs := false }) (disch := omega) only [wcode_skip, wcode_region, wcode_seq, wthen_normal, wcode_cond, wcond_bool, wif_false, wblk_normal, wops_nil, wops_cons, wwant_true, wstep_val, wstep_val_none, aop_move, aop_assign, aop_binOp, aop_slice, wanted_none, get_put, n_put, evalA_tmp, evalA_int, optA, vOf_some, bin_eql, Nat.reduceLT, Nat.reduceEqDiff, ↓reduceIte, decide_false, Int.toNat_natCast, eq_self, hn, h0, h5, eq_false cx', hLs6.sliceLow Try.underlying23 szU8, Int.toNat_natCast]
            refine wround_next (l.drop p.1).length (by omega) ⟨k - 1, l.drop p.1, _, rdOf rd fst, false, _, r, v5, b5, cutS 1 xv p.1 l.length, rfl, by omega, by omega, hall6, hF.more hlt cx, hrd5, hE6, hS5.trans hst6, hcd.stay hst6, by simp only [n_put, hn], by simp only [get_put, ↓reduceIte], by simp only [get_put, ↓reduceIte, Nat.reduceEqDiff, h3], by simp only [get_put, ↓reduceIte, Nat.reduceEqDiff, h4]⟩
        · have c2 : ¬ (p.1 : Int) < (l.length : Int) := by omega
          have hall6 := hall
          rw [show k = (k - 1) + 1 by omega, enc_all hl0 hp hlt, hcn, ← List.append_assoc] at hall6
          simp (config := { maxSteps := 1000000, implicitDefEqProofs := false }) (disch := omega) only [wcode_skip, wcode_region, wcode_seq, wthen_normal, wcode_cond, wcond_bool, wif_false, wblk_normal, wops_nil, wops_cons, wwant_true, wstep_val, wcall_some, aop_move, aop_assign, aop_binOp, aop_slice, aop_call_builtin, wanted_none, get_put, n_put, evalA_tmp, evalAll, optA, vOf_some, builtin_len, bin_lss, Nat.reduceLT, Nat.reduceEqDiff, ↓reduceIte, decide_false, Int.toNat_natCast, eq_self, hn, h0, h5, hLs5.lenA Try.underlying23, eq_false c2, hLs5.sliceLow Try.underlying23 szU8, Int.toNat_natCast]
          refine wround_next (l.drop p.1).length (by omega) ⟨k - 1, l.drop p.1, T, rdOf rd fst, false, _, r, v5, b5, cutS 1 xv p.1 l.length, rfl, by omega, by omega, hall6, hG, hrd5, hE5, hS5, hcd, by simp only [n_put, hn], by simp only [get_put, ↓reduceIte], by simp only [get_put, ↓reduceIte, Nat.reduceEqDiff, h3], by simp only [get_put, ↓reduceIte, Nat.reduceEqDiff, h4]⟩
  · clear hn h0 f hE3 hS3 hx3 hm3 hst3 hs3 s3 hW2 hto2 hst2 hb2 hW1 hb1 hth hst1 hnx1 s1 hx0 v2 b2 s2
    rintro _ f s4 ⟨rfl, rd, begun, D, v, bv, hrd, hall, hW, hS, hn, h3⟩
    have hbs := Nat.le_trans hbl hS.next
    obtain ⟨hd1, hd2⟩ := hD _ _ hall
    simp (config := { maxSteps := 1000000, implicitDefEqProofs := false }) (disch := omega) only [wcode_region, wcode_seq, wthen_normal, wblk_exit, wops_cons, wwant_true, wstep_val, wstep_call, aop_move, aop_call_value, wanted_none, get_put, n_put, evalA_tmp, evalA_int, evalA_func, evalAll, vOf_some, List.cons_append, List.nil_append, Nat.reduceLT, ↓reduceIte, eq_self, hn, h3]
    refine (wcode_any hlc hlw hlbit hlp hlb base _ j v bv _ rd begun 257 hW hbs hd1 hd2 (by omega) hrd).mono ?_
    rintro _ s5 ⟨v5, b5, hW5, hto5⟩
    have hst5 := hto5.stay hW hbs
    have hb5 : base ≤ s5.next := Nat.le_trans hbs hst5.next
    rw [← wbits_append, ← hall] at hW5
    obtain ⟨hd5, hd6⟩ := hD (alls b) [] (by simp)
    have hS5 := hS.trans hst5
    have hpk := wones_pack (alls b) ([], []) (by simp)
    obtain ⟨pq, hpq⟩ : ∃ pq, pq = wbits ([], []) (alls b) := ⟨_, rfl⟩
    have hpk1 : pq.1 ++ pack pq.2 = lzw b := by rw [hpq]; exact hpk.1
    rw [← hpq] at hW5 hd5 hd6
    have hb5b : (lzw b).length ≤ 1000000 := by have h1 := lzw_length b; have h2 := alls_len b; omega
    simp (config := { maxSteps := 1000000, implicitDefEqProofs := false }) (disch := omega) only [wcode_seq, wthen_normal, wcode_block, wcode_loop, wops_nil, wcall_some, n_put, Nat.reduceLT, ↓reduceIte, hn]
    refine Comes.loopOut (fun z f s' => ∃ (q : List UInt8 × List Nat) (rd : Nat) (bg : Bool) (v bv : Value), z = (if q.2 = [] then 0 else 8 - q.2.length) ∧ Wr base s' j v bv q rd bg ∧ Half q ∧ q.1 ++ pack q.2 = lzw b ∧ Stay base s s' ∧ f.n = 80 ∧ f.get 3 = xwptr j)
      (fun y f s' => y = .exit 4 ∧ ∃ (rd : Nat) (bg : Bool) (v bv : Value), Wr base s' j v bv (lzw b, []) rd bg ∧ Stay base s s' ∧ f.n = 80 ∧ f.get 3 = xwptr j)
      ⟨pq, _, _, v5, b5, rfl, hW5, hd5, hpk1, hS5, by simp only [n_put, hn], by simp only [get_put, ↓reduceIte, Nat.reduceEqDiff, h3]⟩ ?_ ?_
    · clear hn h3 f hW5 hd5 hd6 hpk1 hpq hpk hto5 hst5 hb5 hS5 hbs hd1 hd2 hW hS hall hrd
      rintro Q hQ z f s4 ⟨q, rd, bg, v, bv, rfl, hW, hH, hq, hS, hn, h3⟩
      have hbs := Nat.le_trans hbl hS.next
      have g2 := hW.row.thing.load (P := Try.prog) agInts (off := 2) (c := 6) rfl (by simp)
      have hq1 : q.1.length ≤ 1000000 := by rw [← hq, List.length_append] at hb5b; omega
      by_cases hq0 : q.2 = []
      · have c1 : ¬ (0 : Int) < ((q.2.length : Nat) : Int) := by rw [hq0]; simp
        simp (config := { maxSteps := 1000000, implicitDefEqProofs := false }) (disch := omega) only [wcode_region, wcode_seq, wthen_normal, wthen_exit, wcode_cond, wcond_bool, wif_false, wcode_exit, wops_nil, wops_cons, wwant_true, wstep_val, wround_exit, aop_move, aop_load, aop_nilCheck, aop_binOp, aop_fieldAddr, aop_call_builtin, wanted_none, get_put, n_put, evalA_tmp, evalA_int, evalAll, vOf_some, builtin_len, bin_gtr, Nat.reduceLT, Nat.zero_add, List.getD_cons_zero, List.getD_cons_succ, ↓reduceIte, decide_false, eq_self, hn, h3, xfld1, g2, hW.bits.sees.lenA Try.underlying48, eq_false c1]
        refine hQ _ _ _ ⟨rfl, rd, bg, v, bv, ?_, hS, by simp only [n_put, hn], by simp only [get_put, ↓reduceIte, Nat.reduceEqDiff, h3]⟩
        rw [hq0, pack_nil, List.append_nil] at hq
        obtain ⟨q1, q2⟩ := q
        simp only at hq hq0
        rw [← hq, ← hq0]
        exact hW
      · have c1 : (0 : Int) < ((q.2.length : Nat) : Int) := by have := List.length_pos_iff.mpr hq0; omega
        simp (config := { maxSteps := 1000000, implicitDefEqProofs := false }) (disch := omega) only [wcode_skip, wcode_region, wcode_seq, wthen_normal, wcode_cond, wcond_bool, wif_true, wcode_block, wops_nil, wops_cons, wwant_true, wstep_val, wstep_call, aop_move, aop_load, aop_nilCheck, aop_binOp, aop_fieldAddr, aop_call_value, aop_call_builtin, wanted_none, get_put, n_put, evalA_tmp, evalA_int, evalA_func, evalAll, vOf_some, builtin_len, bin_gtr, List.cons_append, List.nil_append, Nat.reduceLT, Nat.reduceEqDiff, Nat.zero_add, List.getD_cons_zero, List.getD_cons_succ, ↓reduceIte, decide_true, eq_self, hn, h3, xfld1, g2, hW.bits.sees.lenA Try.underlying48, eq_true c1]
        refine (wbit_one hlbit hlp hlb base s4 j v bv q rd bg 0 hW hbs hH (by omega)).mono ?_
        rintro _ s5 ⟨v5, b5, hW5, hto5⟩
        rw [show ((0 : Int) % 2).toNat = 0 from rfl] at hW5
        simp (config := { maxSteps := 1000000, implicitDefEqProofs := false }) (disch := omega) only [wblk_normal, wops_nil, wcall_some, n_put, Nat.reduceLT, ↓reduceIte, hn]
        refine wround_next _ ?_ ⟨wone q 0, rd, bg, v5, b5, rfl, hW5, wone_half hH (by omega), by rw [wone_zero hq0 hH.1]; exact hq, hS.trans (hto5.stay hW hbs), by simp only [n_put, hn], by simp only [get_put, ↓reduceIte, Nat.reduceEqDiff, h3]⟩
        have hh := hH.1
        have hl0 := List.length_pos_iff.mpr hq0
        rw [if_neg hq0]
        unfold wone
        by_cases h7 : q.2.length = 7
        · rw [if_pos h7, if_pos rfl]; omega
        · rw [if_neg h7, if_neg (by simp), List.length_append, List.length_singleton]; omega
    · clear hn h3 f
      rintro _ f s6 ⟨rfl, rd6, bg6, v6, bv6, hW6, hS6, hn, h3⟩
      simp (config := { maxSteps := 1000000, implicitDefEqProofs := false }) (disch := omega) only [wcode_region, wcode_seq, wthen_normal, wblk_exit, wops_cons, wwant_true, wstep_val, wstep_call, aop_move, aop_nilCheck, aop_fieldAddr, aop_call_value, wanted_none, get_put, n_put, evalA_tmp, evalA_func, evalAll, vOf_some, List.cons_append, List.nil_append, Nat.reduceLT, Nat.zero_add, ↓reduceIte, eq_self, hn, h3, xfld0]
      refine (bytes_any hlby hlcl base s6 j [bv6, .int .i64 rd6, .bool bg6] v6 (lzw b, 8 * (lzw b).length) hW6.row (by simp only; omega)).mono ?_
      intro w s7 hw
      simp (config := { maxSteps := 1000000, implicitDefEqProofs := false }) (disch := omega) only [wthen_normal, wcode_ret, wops_nil, wops_cons, wwant_true, wstep_val, wcall_some, wfn_ret, wres_some, resultsA_nil, resultsA_tmp, oneOf, aop_assign, wanted_none, get_put, n_put, evalA_tmp, vOf_some, Nat.reduceLT, ↓reduceIte, eq_self, hn, Try.results11]
      exact NewBytes.after hw hS6 hbase
end Go.Proofs.Ytoddiggebjbnnaa
