/-
  LZW, writing: the reference's LzwEncode.
-/
import Derived.Test.YtoddiggebjbnnaaLzwE
import Derived.Test.YtoddiggebjbnnaaRowX
import Derived.Test.YtoddiggebjbnnaaLzwY
import Derived.Test.YtoddiggebjbnnaaStands
set_option linter.unusedSimpArgs false
set_option linter.unusedVariables false
namespace Go.Cl.Lz
theorem stands_drop {b : List UInt8} {at' : Nat} (h : at' ≤ b.length) (t : List UInt8) : (at' + t.length ≤ b.length ∧ (b.drop at').take t.length = t) ↔ (b.drop at').take t.length = t := by
  constructor
  · exact fun h => h.2
  · intro q
    refine ⟨?_, q⟩
    have := congrArg List.length q
    rw [List.length_take, List.length_drop] at this
    omega
end Go.Cl.Lz
namespace Go.Proofs.Ytoddiggebjbnnaa
open Go.Cl Go.Cl.Lz Go.Cl.Rw
theorem qszStr : sizeB Try.prog 9 = some 1 := by kernel_rfl
theorem qbyStr : bytesB Try.prog 9 = some 16 := by kernel_rfl
theorem qzStr : zeroB Try.prog 9 = some (.string ⟨#[]⟩) := by kernel_rfl
theorem qagStr : isAggB Try.prog 9 = some false := by kernel_rfl
def strsV (T : Tab) : List Value := T.map fun e => .string ⟨e.1.toArray⟩
theorem strsV_length (T : Tab) : (strsV T).length = T.length := by simp [strsV]
theorem strsV_getD {T : Tab} {i : Nat} {e : List UInt8 × Int} (h : T[i]? = some e) : (strsV T).getD i undef = txt e.1 := by
  simp [strsV, List.getD_eq_getElem?_getD, h]
structure REnc (base : Nat) (s : ASt) (v tv : Value) (L : List Nat) (T : Tab) : Prop where
  bits : Own s 1 v L.length (ofBytes (bitsB L))
  tab : Own s 1 tv T.length (strsV T)
  bf : Fresh base v
  tf : Fresh base tv
  bt : ∀ k, idOf v = some k → idOf tv ≠ some k
theorem REnc.wrote {base : Nat} {s s' : ASt} {v v' tv : Value} {L L' : List Nat} {T : Tab} (h : REnc base s v tv L T) (ho : Own s' 1 v' L'.length (ofBytes (bitsB L'))) (hf : Fresh base v') (hg : Grown v s v' s') : REnc base s' v' tv L' T := by
  refine ⟨ho, h.tab.turns hg.turns (fun i hi e => h.bt i e hi), hf, h.tf, fun k hk => ?_⟩
  rcases hg.id with e | ⟨i, e, hi⟩
  · rw [e] at hk; exact h.bt k hk
  · rw [e] at hk; injection hk with hk; subst hk
    intro q; have := h.tab.idlt _ q; omega
theorem REnc.tabbed {base : Nat} {s s1 s' : ASt} {v tv tv' : Value} {L : List Nat} {T T' : Tab} (h : REnc base s v tv L T) (h1 : Stay s.next s s1) (ho : Own s' 1 tv' T'.length (strsV T')) (hf : Fresh base tv') (ht : Turns tv s1 s') (hid : idOf tv' = idOf tv ∨ ∃ i, idOf tv' = some i ∧ s1.next ≤ i) : REnc base s' v tv' L T' := by
  refine ⟨(h.bits.keeps h1).turns ht (fun i hi => h.bt i hi), ho, h.bf, hf, fun k hk => ?_⟩
  rcases hid with e | ⟨i, e, hi⟩
  · rw [e]; exact h.bt k hk
  · rw [e]; intro q; injection q with q; have := h.bits.idlt _ hk; have := h1.next; omega
theorem bitsB_getD {L : List Nat} (h : ∀ x ∈ L, x < 2) {i : Nat} (hi : i < L.length) : (ofBytes (bitsB L)).getD i undef = .int .u8 ((((((L.getD i 0 : Nat) : Int)) % 2).toNat : Nat) : Int) := by
  have hx : L.getD i 0 < 2 := by rw [List.getD_eq_getElem?_getD, List.getElem?_eq_getElem hi]; exact h _ (List.getElem_mem _)
  rw [ofBytes_getD (by simpa [bitsB] using hi)]
  have : (bitsB L).getD i 0 = UInt8.ofNat (L.getD i 0) := by simp [bitsB, List.getD_eq_getElem?_getD, List.getElem?_eq_getElem hi]
  rw [this, UInt8.toNat_ofNat']
  congr 1; omega
theorem bitsB_length (L : List Nat) : (bitsB L).length = L.length := by simp [bitsB]
set_option maxRecDepth 100000 in
set_option maxHeartbeats 16000000 in
theorem rlzw_any {lib : Prims} (hl : lib.at 13 = none) (hlc : lib.at 25 = none) (hlw : lib.at 20 = none) (hls : lib.at 26 = none)
    (s : ASt) (x : Value) (b : List UInt8) (hx : Sees s 1 x b.length (ofBytes b)) (hb : b.length ≤ 10000) :
    Runs Try.prog lib 13 [x] s fun w s' => NewBytes s w s' (lzw b) := by
  obtain ⟨base, hbase⟩ : ∃ base, base = s.next := ⟨_, rfl⟩
  have hbl : base ≤ s.next := by omega
  have hx0 : Low base s 1 x b.length (ofBytes b) := by rw [hbase]; exact hx.low
  have hall := alls_len b
  have hlen : ∀ (L E : List Nat), alls b = L ++ E → L.length ≤ 300000 := fun L E h => by
    have := congrArg List.length h
    rw [List.length_append] at this; omega
  refine Runs.enter 130 Try.func13 rfl hl rfl rfl ?_
  intro f hn hf
  have h0 : f.get 0 = x := hf 0
  clear hf
  simp (config := { maxSteps := 1000000, implicitDefEqProofs := false }) (disch := omega) only [wcode_region, wcode_seq, wthen_normal, wops_nil, wops_cons, wwant_true, wstep_val, wstep_call, aop_assign, aop_call_value, wanted_none, evalA_int, evalA_snil, evalA_func, evalAll, vOf_some, List.cons_append, List.nil_append, Nat.reduceLT, ↓reduceIte, hn]
  refine (rcode_any hlc base s (.slice none 0 0) [] 256 9 .nil (Fresh.nil _) hbl (by omega) (by simp) (by omega)).mono ?_
  rintro v1 s1 ⟨hv1, hF1, hst1, hg1⟩
  rw [List.nil_append] at hv1
  have hE1 : REnc base s1 v1 (.slice none 0 0) (cbits 256 9) [] := ⟨hv1, .nil, hF1, Fresh.nil _, fun k hk e => by cases e⟩
  simp (config := { maxSteps := 1000000, implicitDefEqProofs := false }) (disch := omega) only [wcode_region, wcode_seq, wthen_normal, wcode_block, wcode_loop, wops_nil, wops_cons, wwant_true, wstep_val, wcall_some, aop_assign, wanted_none, get_put, n_put, evalA_tmp, evalA_bool, evalA_int, evalA_snil, vOf_some, Nat.reduceLT, ↓reduceIte, eq_self, hn]
  refine Comes.loopOut (fun z f s' => ∃ (k at' : Nat) (T : Tab) (rd : Nat) (fst : Bool) (L : List Nat) (v tv : Value), z = b.length - at' ∧ at' ≤ b.length ∧ (b.drop at').length < k ∧ alls b = L ++ enc k (b.drop at') T rd fst ∧ Lz.Good T ∧ Num T ∧ (∀ e ∈ T, e.1.length ≤ b.length) ∧ rd ≤ 4096 ∧ REnc base s' v tv L T ∧ Stay base s s' ∧ f.n = 130 ∧ f.get 0 = x ∧ f.get 3 = v ∧ f.get 4 = tv ∧ f.get 5 = .int .i64 ((258 + T.length : Nat) : Int) ∧ f.get 6 = .int .i64 rd ∧ f.get 7 = .bool fst ∧ f.get 8 = .int .i64 at')
    (fun y f s' => y = .exit 0 ∧ ∃ (rd : Nat) (L : List Nat) (v tv : Value), alls b = L ++ cbits 257 (width rd) ∧ rd ≤ 4096 ∧ REnc base s' v tv L [] ∧ Stay base s s' ∧ f.n = 130 ∧ f.get 3 = v ∧ f.get 6 = .int .i64 rd)
    ⟨b.length + 1, 0, [], 258, true, cbits 256 9, v1, _, rfl, by omega, by simp, by rw [List.drop_zero]; rfl, Lz.Good.nil, Num.nil, (fun e h => by cases h), by omega, hE1, hst1, by simp only [n_put, hn], by simp only [get_put, ↓reduceIte, Nat.reduceEqDiff, h0], by simp only [get_put, ↓reduceIte, Nat.reduceEqDiff], by simp only [get_put, ↓reduceIte, Nat.reduceEqDiff], by simp only [get_put, ↓reduceIte, Nat.reduceEqDiff]; rfl, by simp only [get_put, ↓reduceIte, Nat.reduceEqDiff]; rfl, by simp only [get_put, ↓reduceIte, Nat.reduceEqDiff], by simp only [get_put, ↓reduceIte]; rfl⟩ ?_ ?_
  · clear hn h0 f hE1 hv1 hF1 hg1 hst1
    rintro Q hQ z f s4 ⟨k, at', T, rd, fst, L, v, tv, rfl, hat, hk, hal, hG, hN, hRl, hrd, hE, hS, hn, h0, h3, h4, h5, h6, h7, h8⟩
    have hbs := Nat.le_trans hbl hS.next
    have hL := hx0.stay hS
    have hLs := hL.sees
    have hTl := hG.len
    by_cases hend : at' < b.length
    · have c1 : (at' : Int) < (b.length : Int) := by omega
      obtain ⟨l, hl'⟩ : ∃ l, l = b.drop at' := ⟨_, rfl⟩
      rw [← hl'] at hk hal
      have hll : l.length = b.length - at' := by rw [hl', List.length_drop]
      have hl0 : l ≠ [] := by intro e; rw [e] at hll; simp at hll; omega
      have hd0 : b.getD at' 0 = l.getD 0 0 := by rw [hl', List.getD_eq_getElem?_getD, List.getD_eq_getElem?_getD, List.getElem?_drop, Nat.add_zero]
      obtain ⟨p, hp⟩ : ∃ p, p = best l T (1, ((l.getD 0 0).toNat : Int)) := ⟨_, rfl⟩
      have hF := hG.found hl0
      rw [← hp] at hF
      have hc256 : ((l.getD 0 0).toNat : Int) < 256 := by have := (l.getD 0 0).toNat_lt; omega
      simp (config := { maxSteps := 1000000, implicitDefEqProofs := false }) (disch := omega) only [wcode_skip, wcode_region, wcode_seq, wthen_normal, wcode_cond, wcond_bool, wif_true, wcode_block, wcode_loop, wops_nil, wops_cons, wwant_true, wstep_val, aop_move, aop_assign, aop_load, aop_binOp, aop_convert, aop_indexAddr, aop_call_builtin, wanted_none, get_put, n_put, evalA_tmp, evalA_int, evalAll, vOf_some, pOf_some, builtin_len, bin_lss, Nat.reduceLT, Nat.reduceEqDiff, ↓reduceIte, decide_true, Int.toNat_natCast, eq_self, hn, h0, h8, hLs.lenA Try.underlying23, eq_true c1, hLs.indexAddr Try.underlying23 szU8, Int.toNat_natCast, hLs.load1 agU8, ofBytes_getD, hd0, conv_int Try.underlying5 Try.underlying3, wrapI]
      refine Comes.loopOut (fun z f s' => ∃ (j : Nat) (q : Nat × Int), z = T.length - j ∧ j ≤ T.length ∧ best l (T.drop j) q = p ∧ s' = s4 ∧ f.n = 130 ∧ f.get 0 = x ∧ f.get 3 = v ∧ f.get 4 = tv ∧ f.get 5 = .int .i64 ((258 + T.length : Nat) : Int) ∧ f.get 6 = .int .i64 rd ∧ f.get 7 = .bool fst ∧ f.get 8 = .int .i64 at' ∧ f.get 9 = .int .i64 q.2 ∧ f.get 10 = .int .i64 q.1 ∧ f.get 11 = .int .i64 j)
        (fun y f s' => y = .exit 2 ∧ s' = s4 ∧ f.n = 130 ∧ f.get 0 = x ∧ f.get 3 = v ∧ f.get 4 = tv ∧ f.get 5 = .int .i64 ((258 + T.length : Nat) : Int) ∧ f.get 6 = .int .i64 rd ∧ f.get 7 = .bool fst ∧ f.get 8 = .int .i64 at' ∧ f.get 9 = .int .i64 p.2 ∧ f.get 10 = .int .i64 p.1)
        ⟨0, (1, ((l.getD 0 0).toNat : Int)), rfl, by omega, by rw [List.drop_zero, hp], rfl, by simp only [n_put, hn], by simp only [get_put, ↓reduceIte, Nat.reduceEqDiff, h0], by simp only [get_put, ↓reduceIte, Nat.reduceEqDiff, h3], by simp only [get_put, ↓reduceIte, Nat.reduceEqDiff, h4], by simp only [get_put, ↓reduceIte, Nat.reduceEqDiff, h5], by simp only [get_put, ↓reduceIte, Nat.reduceEqDiff, h6], by simp only [get_put, ↓reduceIte, Nat.reduceEqDiff, h7], by simp only [get_put, ↓reduceIte, Nat.reduceEqDiff, h8], by simp only [get_put, ↓reduceIte, Nat.reduceEqDiff], by simp only [get_put, ↓reduceIte, Nat.reduceEqDiff]; rfl, by simp only [get_put, ↓reduceIte]; rfl⟩ ?_ ?_
      · clear hn h0 h3 h4 h5 h6 h7 h8 f
        rintro Q2 hQ2 z f s5 ⟨j, q, rfl, hj, hbest, hs5, hn, h0, h3, h4, h5, h6, h7, h8, h9, h10, h11⟩
        subst hs5
        by_cases hjT : j < T.length
        · have c2 : (j : Int) < (T.length : Int) := by omega
          obtain ⟨e, he⟩ : ∃ e, T[j]? = some e := ⟨_, List.getElem?_eq_getElem hjT⟩
          have hdj : T.drop j = e :: T.drop (j + 1) := by
            rw [List.drop_eq_getElem_cons hjT]
            rw [List.getElem?_eq_getElem hjT] at he; injection he with he; rw [he]
          rw [hdj, best] at hbest
          have hidx := hE.tab.sees.indexAddr (k := .i64) (x := (j : Int)) Try.underlying65 qszStr (by omega) (by omega)
          rw [Int.toNat_natCast] at hidx
          have hld := hE.tab.sees.load1 (P := Try.prog) qagStr hjT
          rw [strsV_getD he] at hld
          have he2 : e.2 = ((258 + j : Nat) : Int) := hN j e he
          by_cases c3 : q.1 < e.1.length
          · have c3' : (q.1 : Int) < (e.1.length : Int) := by omega
            have het : e.1.length < 9223372036854775808 := by
              have := hRl e (List.mem_of_getElem? he); omega
            simp (config := { maxSteps := 1000000, implicitDefEqProofs := false }) (disch := omega) only [wcode_skip, wcode_region, wcode_seq, wthen_normal, wcode_cond, wcond_bool, wif_true, wcode_block, wops_nil, wops_cons, wwant_true, wstep_val, wstep_call, aop_move, aop_load, aop_binOp, aop_indexAddr, aop_call_value, aop_call_builtin, wanted_none, wanted_some, yieldA_eq, yieldOf_cons, get_put, n_put, evalA_tmp, evalA_func, evalAll, vOf_some, builtin_len, bin_lss, bin_gtr, List.drop_zero, List.drop_succ_cons, List.cons_append, List.nil_append, Nat.reduceLT, Nat.reduceEqDiff, ↓reduceIte, decide_true, beq_self_eq_true, eq_self, hn, h0, h4, h8, h10, h11, hE.tab.sees.lenA Try.underlying65, eq_true c2, hidx, hld, str_len Try.underlying9, eq_true c3']
            refine (stands_any hls s5 x b at' e.1 hLs (by omega) hat het).mono ?_
            rintro _ s6 ⟨rfl, hs6⟩
            subst hs6
            have hsd : (stands b at' e.1) ↔ l.take e.1.length = e.1 := by rw [hl']; exact stands_drop hat e.1
            by_cases c4 : stands b at' e.1
            · rw [if_pos ⟨c3, hsd.mp c4⟩] at hbest
              simp (config := { maxSteps := 1000000, implicitDefEqProofs := false }) (disch := omega) only [wcode_region, wcode_draw, wdraw_true, wthen_normal, wcode_cond, wcond_bool, wif_true, wblk_normal, wops_nil, wops_cons, wwant_true, wstep_val, wcall_some, wquiet_nil, wquiet_cons, wasks_true, wlook_val, aop_move, aop_assign, aop_pick, aop_load, aop_binOp, aop_indexAddr, aop_call_builtin, wanted_none, get_put, n_put, evalA_tmp, evalA_bool, evalA_int, evalAll, vOf_some, builtin_len, bin_add, valEq_int, valEq_string, valEq_elemPtr, allQuiet_nil, allQuiet_cons, quiet_move, quiet_assign, quiet_load, quiet_binOp, quiet_indexAddr, quiet_len, Nat.reduceLT, Nat.reduceEqDiff, ↓reduceIte, and_self, Bool.and_true, eq_self, hn, h4, h11, decide_eq_true c4, hE.tab.self, hidx, valEq_elemPtr, valEq_string, hld, str_len Try.underlying9, wrapI]
              refine wround_next (T.length - (j + 1)) (by omega) ⟨j + 1, (e.1.length, e.2), rfl, by omega, hbest, rfl, by simp only [n_put, hn], by simp only [get_put, ↓reduceIte, Nat.reduceEqDiff, h0], by simp only [get_put, ↓reduceIte, Nat.reduceEqDiff, h3], by simp only [get_put, ↓reduceIte, Nat.reduceEqDiff, h4], by simp only [get_put, ↓reduceIte, Nat.reduceEqDiff, h5], by simp only [get_put, ↓reduceIte, Nat.reduceEqDiff, h6], by simp only [get_put, ↓reduceIte, Nat.reduceEqDiff, h7], by simp only [get_put, ↓reduceIte, Nat.reduceEqDiff, h8], by simp only [get_put, ↓reduceIte, Nat.reduceEqDiff]; rw [he2]; rfl, by simp only [get_put, ↓reduceIte, Nat.reduceEqDiff], by simp only [get_put, ↓reduceIte]; rfl⟩
            · rw [if_neg (fun w => c4 (hsd.mpr w.2))] at hbest
              simp (config := { maxSteps := 1000000, implicitDefEqProofs := false }) (disch := omega) only [wcode_skip, wcode_region, wthen_normal, wcode_cond, wcond_bool, wif_false, wblk_normal, wops_nil, wops_cons, wwant_true, wstep_val, wcall_some, aop_move, aop_assign, aop_pick, aop_binOp, wanted_none, get_put, n_put, evalA_tmp, evalA_bool, evalA_int, vOf_some, bin_add, Nat.reduceLT, Nat.reduceEqDiff, ↓reduceIte, eq_self, hn, h11, decide_eq_false c4, wrapI]
              refine wround_next (T.length - (j + 1)) (by omega) ⟨j + 1, q, rfl, by omega, hbest, rfl, by simp only [n_put, hn], by simp only [get_put, ↓reduceIte, Nat.reduceEqDiff, h0], by simp only [get_put, ↓reduceIte, Nat.reduceEqDiff, h3], by simp only [get_put, ↓reduceIte, Nat.reduceEqDiff, h4], by simp only [get_put, ↓reduceIte, Nat.reduceEqDiff, h5], by simp only [get_put, ↓reduceIte, Nat.reduceEqDiff, h6], by simp only [get_put, ↓reduceIte, Nat.reduceEqDiff, h7], by simp only [get_put, ↓reduceIte, Nat.reduceEqDiff, h8], by simp only [get_put, ↓reduceIte, Nat.reduceEqDiff, h9], by simp only [get_put, ↓reduceIte, Nat.reduceEqDiff, h10], by simp only [get_put, ↓reduceIte]; rfl⟩
          · have c3' : ¬ (q.1 : Int) < (e.1.length : Int) := by omega
            rw [if_neg (fun w => c3 w.1)] at hbest
            simp (config := { maxSteps := 1000000, implicitDefEqProofs := false }) (disch := omega) only [wcode_skip, wcode_region, wcode_seq, wthen_normal, wcode_cond, wcond_bool, wif_true, wif_false, wcode_block, wblk_normal, wops_nil, wops_cons, wwant_true, wstep_val, wwant_false_some, aop_move, aop_assign, aop_pick, aop_load, aop_binOp, aop_indexAddr, aop_call_builtin, wanted_none, wanted_some, yieldA_eq, yieldOf_cons, get_put, n_put, evalA_tmp, evalA_bool, evalA_int, evalAll, vOf_some, builtin_len, bin_add, bin_lss, bin_gtr, List.drop_zero, List.drop_succ_cons, Nat.reduceLT, Nat.reduceEqDiff, ↓reduceIte, decide_true, decide_false, Bool.false_eq_true, beq_true, eq_self, undef, hn, h4, h10, h11, hE.tab.sees.lenA Try.underlying65, eq_true c2, hidx, hld, str_len Try.underlying9, eq_false c3', wrapI]
            refine wround_next (T.length - (j + 1)) (by omega) ⟨j + 1, q, rfl, by omega, hbest, rfl, by simp only [n_put, hn], by simp only [get_put, ↓reduceIte, Nat.reduceEqDiff, h0], by simp only [get_put, ↓reduceIte, Nat.reduceEqDiff, h3], by simp only [get_put, ↓reduceIte, Nat.reduceEqDiff, h4], by simp only [get_put, ↓reduceIte, Nat.reduceEqDiff, h5], by simp only [get_put, ↓reduceIte, Nat.reduceEqDiff, h6], by simp only [get_put, ↓reduceIte, Nat.reduceEqDiff, h7], by simp only [get_put, ↓reduceIte, Nat.reduceEqDiff, h8], by simp only [get_put, ↓reduceIte, Nat.reduceEqDiff, h9], by simp only [get_put, ↓reduceIte, Nat.reduceEqDiff, h10], by simp only [get_put, ↓reduceIte]; rfl⟩
        · obtain rfl : j = T.length := by omega
          have c2 : ¬ (T.length : Int) < (T.length : Int) := by omega
          rw [List.drop_length, best] at hbest
          subst hbest
          simp (config := { maxSteps := 1000000, implicitDefEqProofs := false }) (disch := omega) only [wcode_region, wcode_seq, wthen_normal, wthen_exit, wcode_cond, wcond_bool, wif_false, wcode_exit, wops_nil, wops_cons, wwant_true, wstep_val, wround_exit, aop_move, aop_binOp, aop_call_builtin, wanted_none, get_put, n_put, evalA_tmp, evalAll, vOf_some, builtin_len, bin_lss, Nat.reduceLT, Nat.reduceEqDiff, ↓reduceIte, decide_false, eq_self, hn, h4, h11, hE.tab.sees.lenA Try.underlying65, eq_false c2]
          exact hQ2 _ _ _ ⟨rfl, rfl, by simp only [n_put, hn], by simp only [get_put, ↓reduceIte, Nat.reduceEqDiff, h0], by simp only [get_put, ↓reduceIte, Nat.reduceEqDiff, h3], by simp only [get_put, ↓reduceIte, Nat.reduceEqDiff, h4], by simp only [get_put, ↓reduceIte, Nat.reduceEqDiff, h5], by simp only [get_put, ↓reduceIte, Nat.reduceEqDiff, h6], by simp only [get_put, ↓reduceIte, Nat.reduceEqDiff, h7], by simp only [get_put, ↓reduceIte, Nat.reduceEqDiff, h8], by simp only [get_put, ↓reduceIte, Nat.reduceEqDiff, h9], by simp only [get_put, ↓reduceIte, Nat.reduceEqDiff, h10]⟩
      · clear hn h0 h3 h4 h5 h6 h7 h8 f
        rintro _ f s5 ⟨rfl, hs5, hn, h0, h3, h4, h5, h6, h7, h8, h9, h10⟩
        subst hs5
        obtain ⟨c, hc⟩ : ∃ c : Nat, p.2 = (c : Int) := ⟨p.2.toNat, by have := hF.lo; omega⟩
        have hcn : p.2.toNat = c := by omega
        have hcm : c < 1000000 := by have := hF.hi; omega
        have hLlen := hlen _ _ hal
        rw [hc] at h9
        simp (config := { maxSteps := 1000000, implicitDefEqProofs := false }) (disch := omega) only [wcode_region, wcode_seq, wthen_normal, wblk_exit, wops_cons, wwant_true, wstep_val, wstep_call, aop_move, aop_call_value, wanted_none, get_put, n_put, evalA_tmp, evalA_func, evalAll, vOf_some, List.cons_append, List.nil_append, Nat.reduceLT, Nat.reduceEqDiff, ↓reduceIte, eq_self, hn, h3, h6, h9]
        refine (rwidth_any hlw s5 rd).mono ?_
        rintro _ s6 ⟨rfl, hs6⟩
        subst hs6
        simp (config := { maxSteps := 1000000, implicitDefEqProofs := false }) (disch := omega) only [wops_cons, wwant_true, wstep_call, wcall_some, aop_call_value, wanted_none, get_put, n_put, evalA_tmp, evalA_func, evalAll, List.cons_append, List.nil_append, Nat.reduceLT, Nat.reduceEqDiff, ↓reduceIte, eq_self, hn]
        have hw16 := width_le rd
        refine (rcode_any hlc base s6 v L c (width rd) hE.bits hE.bf hbs (by omega) (by omega) hcm).mono ?_
        rintro v7 s7 ⟨hv7, hF7, hst7, hg7⟩
        have hE7 := hE.wrote hv7 hF7 hg7
        have hb7 : base ≤ s7.next := Nat.le_trans hbs hst7.next
        have hS7 := hS.trans hst7
        have hLs7 := (hx0.stay hS7).sees
        have hrd7 := rdOf_le hrd fst
        have hp1 := hF.one
        have hp2 := hF.le
        have hdl : (l.drop p.1) = b.drop (at' + p.1) := by rw [hl', List.drop_drop]
        obtain ⟨k, rfl⟩ : ∃ m, k = m + 1 := ⟨k - 1, by omega⟩
        have hrr : (if fst then rd else if rd < 4096 then rd + 1 else rd) = rdOf rd fst := by
          unfold rdOf
          cases fst with
          | true => rfl
          | false => simp only [Bool.false_eq_true, if_false]; split <;> omega
        by_cases hlt : p.1 < l.length
        · have c2 : (at' : Int) + (p.1 : Int) < (b.length : Int) := by omega
          have hcut := hLs7.cutB (lo := at') (hi := at' + p.1 + 1) (by omega) (by omega)
          rw [show at' + p.1 + 1 - at' = p.1 + 1 by omega, ← hl'] at hcut
          have e1 : ((at' : Int) + (p.1 : Int) + 1).toNat = at' + p.1 + 1 := by omega
          have hbV := fun s => buildV1 (P := Try.prog) (s := s) (t := 65) (e := 9) (zv := .string ⟨#[]⟩) (v := txt (l.take (p.1 + 1))) Try.underlying65 qszStr qzStr rfl ⟨_, rfl⟩ rfl
          cases fst with
          | true =>
            simp (config := { maxSteps := 1000000, implicitDefEqProofs := false }) (disch := omega) only [wcode_skip, wcode_region, wcode_seq, wthen_normal, wcode_cond, wcond_bool, wif_true, wif_false, wops_nil, wops_cons, wwant_true, wstep_val, wcall_some, wwant_false_some, aop_move, aop_assign, aop_pick, aop_buildSlice, aop_binOp, aop_unOp, aop_convert, aop_slice, aop_call_builtin, wanted_none, wanted_some, yieldA_eq, yieldOf_cons, get_put, n_put, evalA_tmp, evalA_bool, evalA_int, evalAll, partsA, optA, vOf_some, pOf_some, builtin_len, bin_add, bin_lss, un_not, List.drop_zero, List.drop_succ_cons, Nat.reduceLT, Nat.reduceEqDiff, ↓reduceIte, decide_true, Bool.false_eq_true, beq_true, Bool.not_true, Int.toNat_natCast, eq_self, undef, hn, h0, h4, h7, h8, h10, hLs7.lenA Try.underlying23, eq_true c2, wrapI, hLs7.sliceBoth Try.underlying23 szU8, e1, Int.toNat_natCast, hcut.str Try.underlying23 Try.underlying9 Try.underlying5, hbV]
            refine wstep_newSlice (by rfl) ?_
            intro bs s8 hbs8 hF8 hst8
            have hE8t := hE7.tab.keeps hst8
            simp (config := { maxSteps := 1000000, implicitDefEqProofs := false }) (disch := omega) only [wops_cons, wwant_true, wstep_val, aop_call_builtin, wanted_none, get_put, n_put, evalA_tmp, evalAll, builtin_append, Nat.reduceLT, Nat.reduceEqDiff, ↓reduceIte, eq_self, hn]
            refine wstep_append Try.underlying65 Try.underlying65 (.inl ⟨_, rfl⟩) qszStr qbyStr qzStr rfl hE8t hbs8.sees.src rfl (by decide) rfl (by omega) (by omega) hE7.tf (by have := hst8.next; omega) ?_
            intro tv9 s9 htv9 hF9 hst9 ht9 hid9
            have e2 : strsV T ++ [txt (l.take (p.1 + 1))] = strsV (T ++ [(l.take (p.1 + 1), ((258 + T.length : Nat) : Int))]) := by simp [strsV]
            have e3 : T.length + 1 = (T ++ [(l.take (p.1 + 1), ((258 + T.length : Nat) : Int))]).length := by simp
            rw [e2, e3] at htv9
            have hE9 := hE7.tabbed hst8 htv9 hF9 ht9 hid9
            have hS9 := (hS7.trans (hst8.weaken hb7)).trans hst9
            have hb9 := Nat.le_trans hbl hS9.next
            by_cases cx : 258 + T.length = 4095
            · have cx' : ((258 + T.length : Nat) : Int) + 1 = 4096 := by omega
              have hal6 := hal
              rw [enc_clear hl0 hp hlt cx, hcn, ← List.append_assoc] at hal6
              have hL9 := hlen _ _ hal6
              have hr6 : f.get 6 = f.get 6 := rfl
              simp (config := { maxSteps := 1000000, implicitDefEqProofs := false }) (disch := omega) only [wcode_region, wcode_seq, wthen_normal, wcode_cond, wcond_bool, wif_true, wops_nil, wops_cons, wwant_true, wstep_val, wstep_call, aop_move, aop_assign, aop_binOp, aop_call_value, wanted_none, get_put, n_put, evalA_tmp, evalA_int, evalA_func, evalAll, vOf_some, bin_add, bin_eql, List.cons_append, List.nil_append, Nat.reduceLT, Nat.reduceEqDiff, ↓reduceIte, decide_true, eq_self, hn, h5, h6, wrapI, eq_true cx']
              have hrdx : ∃ y : Int, y = ((rdOf rd true : Nat) : Int) := ⟨_, rfl⟩
              skip
              refine (rwidth_any hlw s9 (rdOf rd true)).mono ?_
              rintro _ s10 ⟨rfl, hs10⟩
              subst hs10
              simp (config := { maxSteps := 1000000, implicitDefEqProofs := false }) (disch := omega) only [wops_cons, wwant_true, wstep_call, wcall_some, aop_call_value, wanted_none, get_put, n_put, evalA_tmp, evalA_int, evalA_func, evalAll, List.cons_append, List.nil_append, Nat.reduceLT, Nat.reduceEqDiff, ↓reduceIte, eq_self, hn]
              have hw17 := width_le (rdOf rd true)
              refine (rcode_any hlc base s10 v7 _ 256 (width (rdOf rd true)) hE9.bits hE9.bf hb9 (by omega) (by rw [List.length_append, cbits_length]; omega) (by omega)).mono ?_
              rintro v11 s11 ⟨hv11, hF11, hst11, hg11⟩
              have hE11 := hE9.wrote hv11 hF11 hg11
              have hal7 := hal6
              rw [← List.append_assoc, hdl] at hal7
              simp (config := { maxSteps := 1000000, implicitDefEqProofs := false }) (disch := omega) only [wcode_region, wthen_normal, wblk_normal, wops_nil, wops_cons, wwant_true, wstep_val, wcall_some, aop_move, aop_assign, aop_binOp, wanted_none, get_put, n_put, evalA_tmp, evalA_bool, evalA_int, evalA_snil, vOf_some, bin_add, Nat.reduceLT, Nat.reduceEqDiff, ↓reduceIte, eq_self, hn, h8, h10, wrapI]
              refine wround_next (b.length - (at' + p.1)) (by omega) ⟨k, at' + p.1, [], 258, true, _, v11, .slice none 0 0, rfl, by omega, by rw [List.length_drop]; omega, hal7, Lz.Good.nil, Num.nil, (fun e h => by cases h), by omega, ⟨hE11.bits, .nil, hE11.bf, Fresh.nil _, fun k hk e => by cases e⟩, hS9.trans hst11, by simp only [n_put, hn], by simp only [get_put, ↓reduceIte, Nat.reduceEqDiff, h0], by simp only [get_put, ↓reduceIte, Nat.reduceEqDiff], by simp only [get_put, ↓reduceIte, Nat.reduceEqDiff], by simp only [get_put, ↓reduceIte, Nat.reduceEqDiff]; rfl, by simp only [get_put, ↓reduceIte, Nat.reduceEqDiff]; rfl, by simp only [get_put, ↓reduceIte, Nat.reduceEqDiff], by simp only [get_put, ↓reduceIte]; rfl⟩
            · have cx' : ¬ ((258 + T.length : Nat) : Int) + 1 = 4096 := by omega
              have hal6 := hal
              rw [enc_more hl0 hp hlt cx, hcn, ← List.append_assoc, hdl] at hal6
              simp (config := { maxSteps := 1000000, implicitDefEqProofs := false }) (disch := omega) only [wcode_skip, wcode_region, wcode_seq, wthen_normal, wcode_cond, wcond_bool, wif_false, wblk_normal, wops_nil, wops_cons, wwant_true, wstep_val, aop_move, aop_assign, aop_binOp, wanted_none, get_put, n_put, evalA_tmp, evalA_int, vOf_some, bin_add, bin_eql, Nat.reduceLT, Nat.reduceEqDiff, ↓reduceIte, decide_false, eq_self, hn, h5, h8, h10, wrapI, eq_false cx']
              refine wround_next (b.length - (at' + p.1)) (by omega) ⟨k, at' + p.1, _, rdOf rd true, false, _, v7, tv9, rfl, by omega, by rw [List.length_drop]; omega, hal6, hF.more hlt cx, hN.snoc _, ?_, hrd7, hE9, hS9, by simp only [n_put, hn], by simp only [get_put, ↓reduceIte, Nat.reduceEqDiff, h0], by simp only [get_put, ↓reduceIte, Nat.reduceEqDiff], by simp only [get_put, ↓reduceIte, Nat.reduceEqDiff], by simp only [get_put, ↓reduceIte, Nat.reduceEqDiff]; rw [← e3]; rfl, by simp only [get_put, ↓reduceIte, Nat.reduceEqDiff, h6] <;> first | rfl | (congr 1; try (unfold rdOf; simp only [Bool.false_eq_true, if_false]; omega)), by simp only [get_put, ↓reduceIte, Nat.reduceEqDiff], by simp only [get_put, ↓reduceIte]; rfl⟩
              intro e he
              rcases List.mem_append.mp he with he | he
              · exact hRl e he
              · rw [List.mem_singleton] at he; subst he
                simp only; rw [List.length_take]; omega
          | false =>
            by_cases c3 : rd < 4096
            · have c3' : (rd : Int) < 4096 := by omega
              have hrF : (rd : Int) + 1 = ((rdOf rd false : Nat) : Int) := by (unfold rdOf; simp only [Bool.false_eq_true, if_false]; omega)
              simp (config := { maxSteps := 1000000, implicitDefEqProofs := false }) (disch := omega) only [wcode_region, wcode_seq, wthen_normal, wcode_cond, wcond_bool, wif_true, wops_nil, wops_cons, wwant_true, wstep_val, wcall_some, aop_move, aop_assign, aop_pick, aop_buildSlice, aop_binOp, aop_unOp, aop_convert, aop_slice, aop_call_builtin, wanted_none, wanted_some, yieldA_eq, yieldOf_cons, get_put, n_put, evalA_tmp, evalA_bool, evalA_int, evalAll, partsA, optA, vOf_some, pOf_some, builtin_len, bin_add, bin_lss, un_not, List.drop_zero, List.drop_succ_cons, Nat.reduceLT, Nat.reduceEqDiff, ↓reduceIte, decide_true, beq_self_eq_true, Bool.not_false, Int.toNat_natCast, eq_self, hn, h0, h4, h6, h7, h8, h10, eq_true c3', hLs7.lenA Try.underlying23, eq_true c2, wrapI, hLs7.sliceBoth Try.underlying23 szU8, e1, Int.toNat_natCast, hcut.str Try.underlying23 Try.underlying9 Try.underlying5, hbV]
              refine wstep_newSlice (by rfl) ?_
              intro bs s8 hbs8 hF8 hst8
              have hE8t := hE7.tab.keeps hst8
              simp (config := { maxSteps := 1000000, implicitDefEqProofs := false }) (disch := omega) only [wops_cons, wwant_true, wstep_val, aop_call_builtin, wanted_none, get_put, n_put, evalA_tmp, evalAll, builtin_append, Nat.reduceLT, Nat.reduceEqDiff, ↓reduceIte, eq_self, hn]
              refine wstep_append Try.underlying65 Try.underlying65 (.inl ⟨_, rfl⟩) qszStr qbyStr qzStr rfl hE8t hbs8.sees.src rfl (by decide) rfl (by omega) (by omega) hE7.tf (by have := hst8.next; omega) ?_
              intro tv9 s9 htv9 hF9 hst9 ht9 hid9
              have e2 : strsV T ++ [txt (l.take (p.1 + 1))] = strsV (T ++ [(l.take (p.1 + 1), ((258 + T.length : Nat) : Int))]) := by simp [strsV]
              have e3 : T.length + 1 = (T ++ [(l.take (p.1 + 1), ((258 + T.length : Nat) : Int))]).length := by simp
              rw [e2, e3] at htv9
              have hE9 := hE7.tabbed hst8 htv9 hF9 ht9 hid9
              have hS9 := (hS7.trans (hst8.weaken hb7)).trans hst9
              have hb9 := Nat.le_trans hbl hS9.next
              by_cases cx : 258 + T.length = 4095
              · have cx' : ((258 + T.length : Nat) : Int) + 1 = 4096 := by omega
                have hal6 := hal
                rw [enc_clear hl0 hp hlt cx, hcn, ← List.append_assoc] at hal6
                have hL9 := hlen _ _ hal6
                have hr6 : f.get 6 = f.get 6 := rfl
                simp (config := { maxSteps := 1000000, implicitDefEqProofs := false }) (disch := omega) only [wcode_region, wcode_seq, wthen_normal, wcode_cond, wcond_bool, wif_true, wops_nil, wops_cons, wwant_true, wstep_val, wstep_call, aop_move, aop_assign, aop_binOp, aop_call_value, wanted_none, get_put, n_put, evalA_tmp, evalA_int, evalA_func, evalAll, vOf_some, bin_add, bin_eql, List.cons_append, List.nil_append, Nat.reduceLT, Nat.reduceEqDiff, ↓reduceIte, decide_true, eq_self, hn, h5, wrapI, eq_true cx']
                have hrdx : ∃ y : Int, y = ((rdOf rd false : Nat) : Int) := ⟨_, rfl⟩
                rw [hrF]
                refine (rwidth_any hlw s9 (rdOf rd false)).mono ?_
                rintro _ s10 ⟨rfl, hs10⟩
                subst hs10
                simp (config := { maxSteps := 1000000, implicitDefEqProofs := false }) (disch := omega) only [wops_cons, wwant_true, wstep_call, wcall_some, aop_call_value, wanted_none, get_put, n_put, evalA_tmp, evalA_int, evalA_func, evalAll, List.cons_append, List.nil_append, Nat.reduceLT, Nat.reduceEqDiff, ↓reduceIte, eq_self, hn]
                have hw17 := width_le (rdOf rd false)
                refine (rcode_any hlc base s10 v7 _ 256 (width (rdOf rd false)) hE9.bits hE9.bf hb9 (by omega) (by rw [List.length_append, cbits_length]; omega) (by omega)).mono ?_
                rintro v11 s11 ⟨hv11, hF11, hst11, hg11⟩
                have hE11 := hE9.wrote hv11 hF11 hg11
                have hal7 := hal6
                rw [← List.append_assoc, hdl] at hal7
                simp (config := { maxSteps := 1000000, implicitDefEqProofs := false }) (disch := omega) only [wcode_region, wthen_normal, wblk_normal, wops_nil, wops_cons, wwant_true, wstep_val, wcall_some, aop_move, aop_assign, aop_binOp, wanted_none, get_put, n_put, evalA_tmp, evalA_bool, evalA_int, evalA_snil, vOf_some, bin_add, Nat.reduceLT, Nat.reduceEqDiff, ↓reduceIte, eq_self, hn, h8, h10, wrapI]
                refine wround_next (b.length - (at' + p.1)) (by omega) ⟨k, at' + p.1, [], 258, true, _, v11, .slice none 0 0, rfl, by omega, by rw [List.length_drop]; omega, hal7, Lz.Good.nil, Num.nil, (fun e h => by cases h), by omega, ⟨hE11.bits, .nil, hE11.bf, Fresh.nil _, fun k hk e => by cases e⟩, hS9.trans hst11, by simp only [n_put, hn], by simp only [get_put, ↓reduceIte, Nat.reduceEqDiff, h0], by simp only [get_put, ↓reduceIte, Nat.reduceEqDiff], by simp only [get_put, ↓reduceIte, Nat.reduceEqDiff], by simp only [get_put, ↓reduceIte, Nat.reduceEqDiff]; rfl, by simp only [get_put, ↓reduceIte, Nat.reduceEqDiff]; rfl, by simp only [get_put, ↓reduceIte, Nat.reduceEqDiff], by simp only [get_put, ↓reduceIte]; rfl⟩
              · have cx' : ¬ ((258 + T.length : Nat) : Int) + 1 = 4096 := by omega
                have hal6 := hal
                rw [enc_more hl0 hp hlt cx, hcn, ← List.append_assoc, hdl] at hal6
                simp (config := { maxSteps := 1000000, implicitDefEqProofs := false }) (disch := omega) only [wcode_skip, wcode_region, wcode_seq, wthen_normal, wcode_cond, wcond_bool, wif_false, wblk_normal, wops_nil, wops_cons, wwant_true, wstep_val, aop_move, aop_assign, aop_binOp, wanted_none, get_put, n_put, evalA_tmp, evalA_int, vOf_some, bin_add, bin_eql, Nat.reduceLT, Nat.reduceEqDiff, ↓reduceIte, decide_false, eq_self, hn, h5, h8, h10, wrapI, eq_false cx']
                refine wround_next (b.length - (at' + p.1)) (by omega) ⟨k, at' + p.1, _, rdOf rd false, false, _, v7, tv9, rfl, by omega, by rw [List.length_drop]; omega, hal6, hF.more hlt cx, hN.snoc _, ?_, hrd7, hE9, hS9, by simp only [n_put, hn], by simp only [get_put, ↓reduceIte, Nat.reduceEqDiff, h0], by simp only [get_put, ↓reduceIte, Nat.reduceEqDiff], by simp only [get_put, ↓reduceIte, Nat.reduceEqDiff], by simp only [get_put, ↓reduceIte, Nat.reduceEqDiff]; rw [← e3]; rfl, by simp only [get_put, ↓reduceIte, Nat.reduceEqDiff] <;> first | rfl | (congr 1; try (unfold rdOf; simp only [Bool.false_eq_true, if_false]; omega)), by simp only [get_put, ↓reduceIte, Nat.reduceEqDiff], by simp only [get_put, ↓reduceIte]; rfl⟩
                intro e he
                rcases List.mem_append.mp he with he | he
                · exact hRl e he
                · rw [List.mem_singleton] at he; subst he
                  simp only; rw [List.length_take]; omega
            · have c3' : ¬ (rd : Int) < 4096 := by omega
              have hrF : (rd : Int) = ((rdOf rd false : Nat) : Int) := by (unfold rdOf; simp only [Bool.false_eq_true, if_false]; omega)
              simp (config := { maxSteps := 1000000, implicitDefEqProofs := false }) (disch := omega) only [wcode_skip, wcode_region, wcode_seq, wthen_normal, wcode_cond, wcond_bool, wif_true, wif_false, wops_nil, wops_cons, wwant_true, wstep_val, wcall_some, aop_move, aop_assign, aop_pick, aop_buildSlice, aop_binOp, aop_unOp, aop_convert, aop_slice, aop_call_builtin, wanted_none, wanted_some, yieldA_eq, yieldOf_cons, get_put, n_put, evalA_tmp, evalA_bool, evalA_int, evalAll, partsA, optA, vOf_some, pOf_some, builtin_len, bin_add, bin_lss, un_not, List.drop_zero, List.drop_succ_cons, Nat.reduceLT, Nat.reduceEqDiff, ↓reduceIte, decide_true, decide_false, beq_self_eq_true, Bool.not_false, Int.toNat_natCast, eq_self, hn, h0, h4, h6, h7, h8, h10, eq_false c3', hLs7.lenA Try.underlying23, eq_true c2, wrapI, hLs7.sliceBoth Try.underlying23 szU8, e1, Int.toNat_natCast, hcut.str Try.underlying23 Try.underlying9 Try.underlying5, hbV]
              refine wstep_newSlice (by rfl) ?_
              intro bs s8 hbs8 hF8 hst8
              have hE8t := hE7.tab.keeps hst8
              simp (config := { maxSteps := 1000000, implicitDefEqProofs := false }) (disch := omega) only [wops_cons, wwant_true, wstep_val, aop_call_builtin, wanted_none, get_put, n_put, evalA_tmp, evalAll, builtin_append, Nat.reduceLT, Nat.reduceEqDiff, ↓reduceIte, eq_self, hn]
              refine wstep_append Try.underlying65 Try.underlying65 (.inl ⟨_, rfl⟩) qszStr qbyStr qzStr rfl hE8t hbs8.sees.src rfl (by decide) rfl (by omega) (by omega) hE7.tf (by have := hst8.next; omega) ?_
              intro tv9 s9 htv9 hF9 hst9 ht9 hid9
              have e2 : strsV T ++ [txt (l.take (p.1 + 1))] = strsV (T ++ [(l.take (p.1 + 1), ((258 + T.length : Nat) : Int))]) := by simp [strsV]
              have e3 : T.length + 1 = (T ++ [(l.take (p.1 + 1), ((258 + T.length : Nat) : Int))]).length := by simp
              rw [e2, e3] at htv9
              have hE9 := hE7.tabbed hst8 htv9 hF9 ht9 hid9
              have hS9 := (hS7.trans (hst8.weaken hb7)).trans hst9
              have hb9 := Nat.le_trans hbl hS9.next
              by_cases cx : 258 + T.length = 4095
              · have cx' : ((258 + T.length : Nat) : Int) + 1 = 4096 := by omega
                have hal6 := hal
                rw [enc_clear hl0 hp hlt cx, hcn, ← List.append_assoc] at hal6
                have hL9 := hlen _ _ hal6
                have hr6 : f.get 6 = f.get 6 := rfl
                simp (config := { maxSteps := 1000000, implicitDefEqProofs := false }) (disch := omega) only [wcode_region, wcode_seq, wthen_normal, wcode_cond, wcond_bool, wif_true, wops_nil, wops_cons, wwant_true, wstep_val, wstep_call, aop_move, aop_assign, aop_binOp, aop_call_value, wanted_none, get_put, n_put, evalA_tmp, evalA_int, evalA_func, evalAll, vOf_some, bin_add, bin_eql, List.cons_append, List.nil_append, Nat.reduceLT, Nat.reduceEqDiff, ↓reduceIte, decide_true, eq_self, hn, h5, h6, wrapI, eq_true cx']
                have hrdx : ∃ y : Int, y = ((rdOf rd false : Nat) : Int) := ⟨_, rfl⟩
                rw [hrF]
                refine (rwidth_any hlw s9 (rdOf rd false)).mono ?_
                rintro _ s10 ⟨rfl, hs10⟩
                subst hs10
                simp (config := { maxSteps := 1000000, implicitDefEqProofs := false }) (disch := omega) only [wops_cons, wwant_true, wstep_call, wcall_some, aop_call_value, wanted_none, get_put, n_put, evalA_tmp, evalA_int, evalA_func, evalAll, List.cons_append, List.nil_append, Nat.reduceLT, Nat.reduceEqDiff, ↓reduceIte, eq_self, hn]
                have hw17 := width_le (rdOf rd false)
                refine (rcode_any hlc base s10 v7 _ 256 (width (rdOf rd false)) hE9.bits hE9.bf hb9 (by omega) (by rw [List.length_append, cbits_length]; omega) (by omega)).mono ?_
                rintro v11 s11 ⟨hv11, hF11, hst11, hg11⟩
                have hE11 := hE9.wrote hv11 hF11 hg11
                have hal7 := hal6
                rw [← List.append_assoc, hdl] at hal7
                simp (config := { maxSteps := 1000000, implicitDefEqProofs := false }) (disch := omega) only [wcode_region, wthen_normal, wblk_normal, wops_nil, wops_cons, wwant_true, wstep_val, wcall_some, aop_move, aop_assign, aop_binOp, wanted_none, get_put, n_put, evalA_tmp, evalA_bool, evalA_int, evalA_snil, vOf_some, bin_add, Nat.reduceLT, Nat.reduceEqDiff, ↓reduceIte, eq_self, hn, h8, h10, wrapI]
                refine wround_next (b.length - (at' + p.1)) (by omega) ⟨k, at' + p.1, [], 258, true, _, v11, .slice none 0 0, rfl, by omega, by rw [List.length_drop]; omega, hal7, Lz.Good.nil, Num.nil, (fun e h => by cases h), by omega, ⟨hE11.bits, .nil, hE11.bf, Fresh.nil _, fun k hk e => by cases e⟩, hS9.trans hst11, by simp only [n_put, hn], by simp only [get_put, ↓reduceIte, Nat.reduceEqDiff, h0], by simp only [get_put, ↓reduceIte, Nat.reduceEqDiff], by simp only [get_put, ↓reduceIte, Nat.reduceEqDiff], by simp only [get_put, ↓reduceIte, Nat.reduceEqDiff]; rfl, by simp only [get_put, ↓reduceIte, Nat.reduceEqDiff]; rfl, by simp only [get_put, ↓reduceIte, Nat.reduceEqDiff], by simp only [get_put, ↓reduceIte]; rfl⟩
              · have cx' : ¬ ((258 + T.length : Nat) : Int) + 1 = 4096 := by omega
                have hal6 := hal
                rw [enc_more hl0 hp hlt cx, hcn, ← List.append_assoc, hdl] at hal6
                simp (config := { maxSteps := 1000000, implicitDefEqProofs := false }) (disch := omega) only [wcode_skip, wcode_region, wcode_seq, wthen_normal, wcode_cond, wcond_bool, wif_false, wblk_normal, wops_nil, wops_cons, wwant_true, wstep_val, aop_move, aop_assign, aop_binOp, wanted_none, get_put, n_put, evalA_tmp, evalA_int, vOf_some, bin_add, bin_eql, Nat.reduceLT, Nat.reduceEqDiff, ↓reduceIte, decide_false, eq_self, hn, h5, h8, h10, wrapI, eq_false cx']
                refine wround_next (b.length - (at' + p.1)) (by omega) ⟨k, at' + p.1, _, rdOf rd false, false, _, v7, tv9, rfl, by omega, by rw [List.length_drop]; omega, hal6, hF.more hlt cx, hN.snoc _, ?_, hrd7, hE9, hS9, by simp only [n_put, hn], by simp only [get_put, ↓reduceIte, Nat.reduceEqDiff, h0], by simp only [get_put, ↓reduceIte, Nat.reduceEqDiff], by simp only [get_put, ↓reduceIte, Nat.reduceEqDiff], by simp only [get_put, ↓reduceIte, Nat.reduceEqDiff]; rw [← e3]; rfl, by simp only [get_put, ↓reduceIte, Nat.reduceEqDiff, h6] <;> first | rfl | (congr 1; try (unfold rdOf; simp only [Bool.false_eq_true, if_false]; omega)), by simp only [get_put, ↓reduceIte, Nat.reduceEqDiff], by simp only [get_put, ↓reduceIte]; rfl⟩
                intro e he
                rcases List.mem_append.mp he with he | he
                · exact hRl e he
                · rw [List.mem_singleton] at he; subst he
                  simp only; rw [List.length_take]; omega
        · have hal6 := hal
          rw [enc_all hl0 hp hlt, hcn, ← List.append_assoc, hdl] at hal6
          have c2 : ¬ (at' : Int) + (p.1 : Int) < (b.length : Int) := by omega
          cases fst with
          | true =>
            simp (config := { maxSteps := 1000000, implicitDefEqProofs := false }) (disch := omega) only [wcode_skip, wcode_region, wcode_seq, wthen_normal, wcode_cond, wcond_bool, wif_false, wblk_normal, wops_nil, wops_cons, wwant_true, wstep_val, wcall_some, wwant_false_some, aop_move, aop_assign, aop_pick, aop_binOp, aop_unOp, aop_call_builtin, wanted_none, wanted_some, yieldA_eq, yieldOf_cons, get_put, n_put, evalA_tmp, evalA_bool, evalAll, vOf_some, builtin_len, bin_add, bin_lss, un_not, List.drop_zero, List.drop_succ_cons, Nat.reduceLT, Nat.reduceEqDiff, ↓reduceIte, decide_false, Bool.false_eq_true, beq_true, Bool.not_true, eq_self, undef, hn, h0, h7, h8, h10, hLs7.lenA Try.underlying23, eq_false c2, wrapI]
            have hr6 : rdOf rd true = rdOf rd true := rfl
            refine wround_next (b.length - (at' + p.1)) (by omega) ⟨k, at' + p.1, T, rdOf rd true, false, _, v7, tv, rfl, by omega, by rw [List.length_drop]; omega, hal6, hG, hN, hRl, hrd7, hE7, hS7, by simp only [n_put, hn], by simp only [get_put, ↓reduceIte, Nat.reduceEqDiff, h0], by simp only [get_put, ↓reduceIte, Nat.reduceEqDiff], by simp only [get_put, ↓reduceIte, Nat.reduceEqDiff, h4], by simp only [get_put, ↓reduceIte, Nat.reduceEqDiff, h5], by simp only [get_put, ↓reduceIte, Nat.reduceEqDiff, h6] <;> first | rfl | (congr 1; try (unfold rdOf; simp only [Bool.false_eq_true, if_false]; omega)), by simp only [get_put, ↓reduceIte, Nat.reduceEqDiff], by simp only [get_put, ↓reduceIte]; rfl⟩
          | false =>
            by_cases c3 : rd < 4096
            · have c3' : (rd : Int) < 4096 := by omega
              simp (config := { maxSteps := 1000000, implicitDefEqProofs := false }) (disch := omega) only [wcode_skip, wcode_region, wcode_seq, wthen_normal, wcode_cond, wcond_bool, wif_true, wif_false, wblk_normal, wops_nil, wops_cons, wwant_true, wstep_val, wcall_some, aop_move, aop_assign, aop_pick, aop_binOp, aop_unOp, aop_call_builtin, wanted_none, wanted_some, yieldA_eq, yieldOf_cons, get_put, n_put, evalA_tmp, evalA_bool, evalA_int, evalAll, vOf_some, builtin_len, bin_add, bin_lss, un_not, List.drop_zero, List.drop_succ_cons, Nat.reduceLT, Nat.reduceEqDiff, ↓reduceIte, decide_true, decide_false, beq_self_eq_true, Bool.not_false, eq_self, hn, h0, h6, h7, h8, h10, eq_true c3', hLs7.lenA Try.underlying23, eq_false c2, wrapI]
              have hr6 : rdOf rd false = rdOf rd false := rfl
              refine wround_next (b.length - (at' + p.1)) (by omega) ⟨k, at' + p.1, T, rdOf rd false, false, _, v7, tv, rfl, by omega, by rw [List.length_drop]; omega, hal6, hG, hN, hRl, hrd7, hE7, hS7, by simp only [n_put, hn], by simp only [get_put, ↓reduceIte, Nat.reduceEqDiff, h0], by simp only [get_put, ↓reduceIte, Nat.reduceEqDiff], by simp only [get_put, ↓reduceIte, Nat.reduceEqDiff, h4], by simp only [get_put, ↓reduceIte, Nat.reduceEqDiff, h5], by simp only [get_put, ↓reduceIte, Nat.reduceEqDiff] <;> first | rfl | (congr 1; try (unfold rdOf; simp only [Bool.false_eq_true, if_false]; omega)), by simp only [get_put, ↓reduceIte, Nat.reduceEqDiff], by simp only [get_put, ↓reduceIte]; rfl⟩
            · have c3' : ¬ (rd : Int) < 4096 := by omega
              simp (config := { maxSteps := 1000000, implicitDefEqProofs := false }) (disch := omega) only [wcode_skip, wcode_region, wcode_seq, wthen_normal, wcode_cond, wcond_bool, wif_false, wblk_normal, wops_nil, wops_cons, wwant_true, wstep_val, wcall_some, aop_move, aop_assign, aop_pick, aop_binOp, aop_unOp, aop_call_builtin, wanted_none, wanted_some, yieldA_eq, yieldOf_cons, get_put, n_put, evalA_tmp, evalA_bool, evalA_int, evalAll, vOf_some, builtin_len, bin_add, bin_lss, un_not, List.drop_zero, List.drop_succ_cons, Nat.reduceLT, Nat.reduceEqDiff, ↓reduceIte, decide_false, beq_self_eq_true, Bool.not_false, eq_self, hn, h0, h6, h7, h8, h10, eq_false c3', hLs7.lenA Try.underlying23, eq_false c2, wrapI]
              have hr6 : rdOf rd false = rdOf rd false := rfl
              refine wround_next (b.length - (at' + p.1)) (by omega) ⟨k, at' + p.1, T, rdOf rd false, false, _, v7, tv, rfl, by omega, by rw [List.length_drop]; omega, hal6, hG, hN, hRl, hrd7, hE7, hS7, by simp only [n_put, hn], by simp only [get_put, ↓reduceIte, Nat.reduceEqDiff, h0], by simp only [get_put, ↓reduceIte, Nat.reduceEqDiff], by simp only [get_put, ↓reduceIte, Nat.reduceEqDiff, h4], by simp only [get_put, ↓reduceIte, Nat.reduceEqDiff, h5], by simp only [get_put, ↓reduceIte, Nat.reduceEqDiff, h6] <;> first | rfl | (congr 1; try (unfold rdOf; simp only [Bool.false_eq_true, if_false]; omega)), by simp only [get_put, ↓reduceIte, Nat.reduceEqDiff], by simp only [get_put, ↓reduceIte]; rfl⟩
    · have c1 : ¬ (at' : Int) < (b.length : Int) := by omega
      obtain rfl : at' = b.length := by omega
      rw [List.drop_length, enc_end] at hal
      simp (config := { maxSteps := 1000000, implicitDefEqProofs := false }) (disch := omega) only [wcode_region, wcode_seq, wthen_normal, wthen_exit, wcode_cond, wcond_bool, wif_false, wcode_exit, wops_nil, wops_cons, wwant_true, wstep_val, wround_exit, aop_move, aop_binOp, aop_call_builtin, wanted_none, get_put, n_put, evalA_tmp, evalAll, vOf_some, builtin_len, bin_lss, Nat.reduceLT, Nat.reduceEqDiff, ↓reduceIte, decide_false, eq_self, hn, h0, h8, hLs.lenA Try.underlying23, eq_false c1]
      exact hQ _ _ _ ⟨rfl, rd, L, v, .slice none 0 0, hal, hrd, ⟨hE.bits, .nil, hE.bf, Fresh.nil _, fun k hk e => by cases e⟩, hS, by simp only [n_put, hn], by simp only [get_put, ↓reduceIte, Nat.reduceEqDiff, h3], by simp only [get_put, ↓reduceIte, Nat.reduceEqDiff, h6]⟩
  · clear hn h0 f hE1 hv1 hF1 hg1 hst1
    rintro _ f s4 ⟨rfl, rd, L, v, tv, hal, hrd, hE, hS, hn, h3, h6⟩
    have hbs := Nat.le_trans hbl hS.next
    have hLlen := hlen _ _ hal
    simp (config := { maxSteps := 1000000, implicitDefEqProofs := false }) (disch := omega) only [wcode_region, wcode_seq, wthen_normal, wblk_exit, wops_cons, wwant_true, wstep_val, wstep_call, aop_move, aop_call_value, wanted_none, get_put, n_put, evalA_tmp, evalA_func, evalAll, vOf_some, List.cons_append, List.nil_append, Nat.reduceLT, Nat.reduceEqDiff, ↓reduceIte, eq_self, hn, h3, h6]
    refine (rwidth_any hlw s4 rd).mono ?_
    rintro _ s5 ⟨rfl, hs5⟩
    subst hs5
    simp (config := { maxSteps := 1000000, implicitDefEqProofs := false }) (disch := omega) only [wops_cons, wwant_true, wstep_call, wcall_some, aop_call_value, wanted_none, get_put, n_put, evalA_tmp, evalA_int, evalA_func, evalAll, List.cons_append, List.nil_append, Nat.reduceLT, Nat.reduceEqDiff, ↓reduceIte, eq_self, hn]
    have hw16 := width_le rd
    refine (rcode_any hlc base s5 v L 257 (width rd) hE.bits hE.bf hbs (by omega) (by omega) (by omega)).mono ?_
    rintro v7 s7 ⟨hv7, hF7, hst7, _⟩
    rw [← hal] at hv7
    obtain ⟨A, hA⟩ : ∃ A, A = alls b := ⟨_, rfl⟩
    have hAb : ∀ x ∈ A, x < 2 := by rw [hA]; exact alls_bit b
    have hAl : A.length ≤ 300000 := by rw [hA]; omega
    have hAz : pack A = lzw b := by rw [hA]; rfl
    rw [← hA] at hv7
    have hS7 := hS.trans hst7
    have hb7 := Nat.le_trans hbl hS7.next
    simp (config := { maxSteps := 1000000, implicitDefEqProofs := false }) (disch := omega) only [wcode_region, wcode_seq, wthen_normal, wcode_block, wcode_loop, wops_nil, wops_cons, wwant_true, wstep_val, wcall_some, aop_assign, wanted_none, get_put, n_put, evalA_tmp, evalA_int, evalA_snil, vOf_some, Nat.reduceLT, ↓reduceIte, eq_self, hn]
    refine Comes.loopOut (fun z f s' => ∃ (i : Nat) (ov : Value), z = A.length - i ∧ i ≤ A.length ∧ Own s' 1 v7 A.length (ofBytes (bitsB A)) ∧ Own s' 1 ov (laid A i).length (ofBytes (laid A i)) ∧ Fresh base ov ∧ (∀ k, idOf ov = some k → idOf v7 ≠ some k) ∧ Stay base s s' ∧ f.n = 130 ∧ f.get 3 = v7 ∧ f.get 12 = ov ∧ f.get 13 = .int .i64 i)
      (fun y f s' => y = .exit 4 ∧ ∃ (ov : Value), Own s' 1 ov (lzw b).length (ofBytes (lzw b)) ∧ Fresh base ov ∧ Stay base s s' ∧ f.n = 130 ∧ f.get 12 = ov)
      ⟨0, .slice none 0 0, rfl, by omega, hv7, (by have : laid A 0 = [] := by (unfold laid; rw [List.take_zero]; exact pack_nil)
                                                   rw [this]; exact .nil), Fresh.nil _, (fun k hk e => by cases hk), hS7, by simp only [n_put, hn], by simp only [get_put, ↓reduceIte, Nat.reduceEqDiff], by simp only [get_put, ↓reduceIte, Nat.reduceEqDiff], by simp only [get_put, ↓reduceIte]; rfl⟩ ?_ ?_
    · clear hn h3 h6 f hE hv7
      rintro Q hQ z f s8 ⟨i, ov, rfl, hi, hv, ho, hof, hov, hS8, hn, h3, h12, h13⟩
      have hb8 := Nat.le_trans hbl hS8.next
      by_cases hil : i < A.length
      · have c1 : (i : Int) < (A.length : Int) := by omega
        have hm8 : i % 8 < 8 := Nat.mod_lt _ (by omega)
        obtain ⟨hlt, hnext⟩ := laid_next hAb hil
        have hroomy := laid_room hil
        have hlaid : (laid A i).length ≤ 300000 := by
          have := pack_length (A.take i).length (A.take i) (Nat.le_refl _)
          have h2 : (A.take i).length ≤ A.length := by rw [List.length_take]; omega
          show (pack (A.take i)).length ≤ _
          omega
        by_cases hz : i % 8 = 0
        · have hz' : ((i % 8 : Nat) : Int) = 0 := by omega
          rw [if_pos hz] at hroomy
          simp (config := { maxSteps := 1000000, implicitDefEqProofs := false }) (disch := omega) only [wcode_skip, wcode_region, wcode_seq, wthen_normal, wcode_cond, wcond_bool, wif_true, wcode_block, wops_nil, wops_cons, wwant_true, wstep_val, aop_move, aop_buildSlice, aop_binOp, aop_call_builtin, wanted_none, get_put, n_put, evalA_tmp, evalA_int, evalAll, partsA, vOf_some, builtin_len, bin_eql, bin_lss, Nat.reduceLT, Nat.reduceEqDiff, ↓reduceIte, decide_true, ne_eq, eq_self, hn, h3, h12, h13, hv.sees.lenA Try.underlying23, eq_true c1, bin_rem, rem8, eq_true hz', build1 Try.underlying23 szU8 zU8]
          refine wstep_append_lit Try.underlying23 szU8 byU8 zU8 rfl ho (by simp only [get_put, ↓reduceIte]) (by decide) (by simp only [n_put, hn]; decide) (by simp only [n_put, hn]; decide) (by rfl) (by decide) rfl (by omega) (by omega) hof hb8 ?_
          intro bs o9 s9 ho9 hF9 hst9 ht9 hid9
          have e1 : ofBytes (laid A i) ++ [.int .u8 0] = ofBytes (roomy A i) := by rw [hroomy, ofBytes_append]; rfl
          have e2 : (laid A i).length + 1 = (roomy A i).length := by rw [hroomy, List.length_append]; rfl
          rw [e1, e2] at ho9
          have hv9 := hv.turns ht9 (fun k hk e => hov k e hk)
          have hov9 : ∀ k, idOf o9 = some k → idOf v7 ≠ some k := fun k hk => by
            rcases hid9 with e | ⟨q, e, hq⟩
            · rw [e] at hk; exact hov k hk
            · rw [e] at hk; injection hk with hk; subst hk
              intro w; have := hv.idlt _ w; omega
          have hS9 := hS8.trans hst9
          have hi8 : i / 8 < (roomy A i).length := hlt
          have hidxo := (ho9).sees.indexAddr (k := .i64) (x := ((i / 8 : Nat) : Int)) Try.underlying23 szU8 (by omega) (by omega)
          rw [Int.toNat_natCast] at hidxo
          have hldo := (ho9).sees.load1 (P := Try.prog) agU8 hi8
          rw [ofBytes_getD hi8] at hldo
          have hidxv := (hv9).sees.indexAddr (k := .i64) (x := (i : Int)) Try.underlying23 szU8 (by omega) (by omega)
          rw [Int.toNat_natCast] at hidxv
          have hldv := (hv9).sees.load1 (P := Try.prog) agU8 hil
          rw [bitsB_getD hAb hil] at hldv
          have e7 : (7 : Int) - ((i % 8 : Nat) : Int) = ((7 - i % 8 : Nat) : Int) := by omega
          have h78 : 7 - i % 8 < 8 := by omega
          try (simp (config := { maxSteps := 1000000, implicitDefEqProofs := false }) (disch := omega) only [wcode_draw, wthen_normal, wops_nil, wops_cons, wwant_true, wstep_val, quiet_store, Bool.and_false, aop_assign, wanted_none, get_put, n_put, evalA_tmp, vOf_some, allQuiet_nil, allQuiet_cons, quiet_move, quiet_load, quiet_binOp, quiet_indexAddr, quiet_convert, Nat.reduceLT, ↓reduceIte, Bool.and_true, eq_self, hn])
          refine Drawn.tight' (by kernel_rfl) ?_
          simp (config := { maxSteps := 1000000, implicitDefEqProofs := false }) (disch := omega) only [wopsV_cons, vwant_ite, vlook_val, vstep_val, quiet_store, alloc_store, alloc_convert, aop_move, aop_load, aop_store, aop_binOp, aop_convert, aop_indexAddr, wanted_none, get_put, n_put, evalA_tmp, evalA_int, vOf_some, pOf_some, bin_sub, valEq_int, valEq_elemPtr, quiet_move, quiet_load, quiet_binOp, quiet_indexAddr, quiet_convert, Nat.reduceLT, Nat.reduceEqDiff, ↓reduceIte, and_self, Bool.false_eq_true, eq_self, hn, h3, h13, bin_quo, quo8, bin_rem, rem8, hidxo, hidxv, valEq_elemPtr, hldo, hldv, (ho9).self, (hv9).self, wrapI, e7, conv_int Try.underlying3 Try.underlying34, wrapu64y, shlB, bin_or, orB]
          refine vstep_storeElem szU8 ho9 hi8 rfl ?_
          intro sE hoE htE
          have hsb : setb ((roomy A i).getD (i / 8) 0) ((A.getD i 0 : Nat) : Int) (7 - i % 8) = (roomy A i).getD (i / 8) 0 ||| UInt8.ofNat (A.getD i 0 * 2 ^ (7 - i % 8)) := by
            have hx : A.getD i 0 < 2 := by rw [List.getD_eq_getElem?_getD, List.getElem?_eq_getElem hil]; exact hAb _ (List.getElem_mem _)
            unfold setb
            rw [show ((((A.getD i 0 : Nat) : Int)) % 2).toNat = A.getD i 0 by omega]
          rw [hsb, set_bytes, hnext] at hoE
          have hle : (roomy A i).length = (laid A (i + 1)).length := by rw [← hnext, List.length_set]
          rw [hle] at hoE
          simp (config := { maxSteps := 1000000, implicitDefEqProofs := false }) (disch := omega) only [wcode_region, wthen_normal, wblk_normal, wops_nil, wops_cons, wwant_true, wstep_val, wopsV_nil, vcall_none, aop_move, aop_assign, aop_binOp, wanted_none, get_put, n_put, evalA_tmp, evalA_int, vOf_some, bin_add, Nat.reduceLT, Nat.reduceEqDiff, ↓reduceIte, eq_self, hn, h13, wrapI]
          refine wround_next (A.length - (i + 1)) (by omega) ⟨i + 1, o9, rfl, by omega, (hv9).turns htE (fun k hk e => hov9 k e hk), hoE, hF9, hov9, (hS9).trans (htE.keeps hF9 (Nat.le_trans hbl (hS9).next)), by simp only [n_put, hn], by simp only [get_put, ↓reduceIte, Nat.reduceEqDiff, h3], by simp only [get_put, ↓reduceIte, Nat.reduceEqDiff], by simp only [get_put, ↓reduceIte]; rfl⟩
        · have hz' : ¬ ((i % 8 : Nat) : Int) = 0 := by omega
          rw [if_neg hz] at hroomy
          rw [← hroomy] at ho
          simp (config := { maxSteps := 1000000, implicitDefEqProofs := false }) (disch := omega) only [wcode_skip, wcode_region, wcode_draw, wcode_seq, wthen_normal, wcode_cond, wcond_bool, wif_true, wif_false, wcode_block, wops_nil, wops_cons, wwant_true, wstep_val, quiet_store, Bool.and_false, aop_move, aop_binOp, aop_call_builtin, wanted_none, get_put, n_put, evalA_tmp, evalA_int, evalAll, vOf_some, builtin_len, bin_eql, bin_lss, allQuiet_nil, allQuiet_cons, quiet_move, quiet_load, quiet_binOp, quiet_indexAddr, quiet_convert, Nat.reduceLT, Nat.reduceEqDiff, ↓reduceIte, Bool.and_true, decide_true, decide_false, ne_eq, eq_self, hn, h3, h13, hv.sees.lenA Try.underlying23, eq_true c1, bin_rem, rem8, eq_false hz']
          have hi8 : i / 8 < (roomy A i).length := hlt
          have hidxo := (ho).sees.indexAddr (k := .i64) (x := ((i / 8 : Nat) : Int)) Try.underlying23 szU8 (by omega) (by omega)
          rw [Int.toNat_natCast] at hidxo
          have hldo := (ho).sees.load1 (P := Try.prog) agU8 hi8
          rw [ofBytes_getD hi8] at hldo
          have hidxv := (hv).sees.indexAddr (k := .i64) (x := (i : Int)) Try.underlying23 szU8 (by omega) (by omega)
          rw [Int.toNat_natCast] at hidxv
          have hldv := (hv).sees.load1 (P := Try.prog) agU8 hil
          rw [bitsB_getD hAb hil] at hldv
          have e7 : (7 : Int) - ((i % 8 : Nat) : Int) = ((7 - i % 8 : Nat) : Int) := by omega
          have h78 : 7 - i % 8 < 8 := by omega
          try (simp (config := { maxSteps := 1000000, implicitDefEqProofs := false }) (disch := omega) only [wcode_skip, wcode_region, wcode_draw, wdraw_true, wcode_seq, wthen_normal, wthen_ret, wthen_exit, wcode_cond, wcond_bool, wif_true, wif_false, wcode_block, wblk_normal, wblk_ret, wblk_exit, wcode_loop, wcode_exit, wcode_scope, wcode_ret, wops_nil, wops_cons, wwant_true, wput_some, wstep_val, wstep_val_none, wstep_call, wcall_some, wcall_none, wquiet_nil, wquiet_cons, wasks_true, wasks_false_some, wwant_false_some, wwant_false_none, wlook_val, wopsV_nil, wopsV_cons, vwant_ite, vwant_false_some, vwant_false_none, vlook_val, vstep_val, vstep_val_none, vstep_call, vcall_some, vcall_none, cond_true, cond_false, quiet_call, quiet_buildSlice, quiet_build, quiet_store, quiet_box, quiet_alloc, quiet_makeSlice, quiet_append, quiet_copy, quiet_min, quiet_max, alloc_buildSlice, alloc_store, alloc_box, alloc_alloc, alloc_makeSlice, alloc_call, alloc_convert, alloc_move, alloc_assign, alloc_pick, alloc_load, alloc_nilCheck, alloc_binOp, alloc_unOp, alloc_indexAddr, alloc_index, alloc_fieldAddr, alloc_field, alloc_slice, alloc_extract, Bool.false_and, Bool.and_false, wround_ret, wround_exit, wres_some, resultsA_nil, resultsA_tmp, oneOf, aop_move, aop_assign, aop_pick, aop_alloc, aop_box, aop_build, aop_buildSlice, aop_load, aop_store, aop_nilCheck, aop_binOp, aop_unOp, aop_convert, aop_makeMap, aop_makeSlice, aop_slice, aop_fieldAddr, aop_field, aop_indexAddr, aop_index, aop_lookup, aop_mapUpdate, aop_extract, aop_call_value, aop_call_builtin, wanted_none, wanted_some, yieldA_eq, yieldOf_cons, get_put, n_put, evalA_tmp, evalA_bool, evalA_int, evalA_string, evalA_snil, evalA_pnil, evalA_mnil, evalA_func, evalAll, partsA, optA, cells_agg, vOf_some, pOf_some, uOf_some, builtin_len, builtin_append, builtin_copy, builtin_min, builtin_max, bin_add, bin_sub, bin_mul, bin_eql, bin_neq, bin_lss, bin_leq, bin_gtr, bin_geq, un_not, un_neg, valEq_bool, valEq_int, valEq_string, valEq_pointer, valEq_slice, valEq_elemPtr, valEq_cutS, allQuiet_nil, allQuiet_cons, quiet_move, quiet_assign, quiet_pick, quiet_load, quiet_binOp, quiet_unOp, quiet_indexAddr, quiet_index, quiet_len, quiet_fieldAddr, quiet_field, quiet_slice, quiet_nilCheck, quiet_extract, quiet_convert, natOf_none, List.drop_zero, List.drop_succ_cons, List.cons_append, List.nil_append, Nat.reduceLT, Nat.reduceLeDiff, Nat.reduceEqDiff, Nat.reduceAdd, Nat.zero_add, List.getD_cons_zero, List.getD_cons_succ, List.set_cons_zero, List.set_cons_succ, ↓reduceIte, true_and, and_true, and_self, Bool.and_true, Bool.true_and, decide_true, decide_false, Bool.false_eq_true, if_true, if_false, beq_self_eq_true, beq_true, beq_false, Bool.not_true, Bool.not_false, Int.toNat_natCast, Int.ofNat_lt, Int.ofNat_le, Int.natCast_inj, ne_eq, eq_self, not_true_eq_false, not_false_eq_true, hn, h3, h12, h13])
          refine Drawn.tight' (by kernel_rfl) ?_
          simp (config := { maxSteps := 1000000, implicitDefEqProofs := false }) (disch := omega) only [wopsV_cons, vwant_ite, vlook_val, vstep_val, quiet_store, alloc_store, alloc_convert, aop_move, aop_load, aop_store, aop_binOp, aop_convert, aop_indexAddr, wanted_none, get_put, n_put, evalA_tmp, evalA_int, vOf_some, pOf_some, bin_sub, valEq_int, valEq_elemPtr, quiet_move, quiet_load, quiet_binOp, quiet_indexAddr, quiet_convert, Nat.reduceLT, Nat.reduceEqDiff, ↓reduceIte, and_self, Bool.false_eq_true, eq_self, hn, h3, h12, h13, bin_quo, quo8, bin_rem, rem8, hidxo, hidxv, valEq_elemPtr, hldo, hldv, (ho).self, (hv).self, wrapI, e7, conv_int Try.underlying3 Try.underlying34, wrapu64y, shlB, bin_or, orB]
          refine vstep_storeElem szU8 ho hi8 rfl ?_
          intro sE hoE htE
          have hsb : setb ((roomy A i).getD (i / 8) 0) ((A.getD i 0 : Nat) : Int) (7 - i % 8) = (roomy A i).getD (i / 8) 0 ||| UInt8.ofNat (A.getD i 0 * 2 ^ (7 - i % 8)) := by
            have hx : A.getD i 0 < 2 := by rw [List.getD_eq_getElem?_getD, List.getElem?_eq_getElem hil]; exact hAb _ (List.getElem_mem _)
            unfold setb
            rw [show ((((A.getD i 0 : Nat) : Int)) % 2).toNat = A.getD i 0 by omega]
          rw [hsb, set_bytes, hnext] at hoE
          have hle : (roomy A i).length = (laid A (i + 1)).length := by rw [← hnext, List.length_set]
          rw [hle] at hoE
          simp (config := { maxSteps := 1000000, implicitDefEqProofs := false }) (disch := omega) only [wcode_region, wthen_normal, wblk_normal, wops_nil, wops_cons, wwant_true, wstep_val, wopsV_nil, vcall_none, aop_move, aop_assign, aop_binOp, wanted_none, get_put, n_put, evalA_tmp, evalA_int, vOf_some, bin_add, Nat.reduceLT, Nat.reduceEqDiff, ↓reduceIte, eq_self, hn, h13, wrapI]
          refine wround_next (A.length - (i + 1)) (by omega) ⟨i + 1, ov, rfl, by omega, (hv).turns htE (fun k hk e => hov k e hk), hoE, hof, hov, (hS8).trans (htE.keeps hof (Nat.le_trans hbl (hS8).next)), by simp only [n_put, hn], by simp only [get_put, ↓reduceIte, Nat.reduceEqDiff, h3], by simp only [get_put, ↓reduceIte, Nat.reduceEqDiff, h12], by simp only [get_put, ↓reduceIte]; rfl⟩
      · obtain rfl : i = A.length := by omega
        have c1 : ¬ (A.length : Int) < (A.length : Int) := by omega
        simp (config := { maxSteps := 1000000, implicitDefEqProofs := false }) (disch := omega) only [wcode_region, wcode_seq, wthen_normal, wthen_exit, wcode_cond, wcond_bool, wif_false, wcode_exit, wops_nil, wops_cons, wwant_true, wstep_val, wround_exit, aop_move, aop_binOp, aop_call_builtin, wanted_none, get_put, n_put, evalA_tmp, evalAll, vOf_some, builtin_len, bin_lss, Nat.reduceLT, Nat.reduceEqDiff, ↓reduceIte, decide_false, ne_eq, eq_self, hn, h3, h13, hv.sees.lenA Try.underlying23, eq_false c1]
        have e : laid A A.length = lzw b := by unfold laid; rw [List.take_length, hAz]
        rw [e] at ho
        exact hQ _ _ _ ⟨rfl, ov, ho, hof, hS8, by simp only [n_put, hn], by simp only [get_put, ↓reduceIte, Nat.reduceEqDiff, h12]⟩
    · clear hn h3 h6 f
      rintro _ f s8 ⟨rfl, ov, ho, hof, hS8, hn, h12⟩
      simp (config := { maxSteps := 1000000, implicitDefEqProofs := false }) (disch := omega) only [wcode_region, wcode_seq, wthen_normal, wblk_exit, wcode_ret, wops_nil, wops_cons, wwant_true, wstep_val, wfn_ret, wres_some, resultsA_nil, resultsA_tmp, oneOf, aop_move, aop_assign, wanted_none, get_put, n_put, evalA_tmp, vOf_some, Nat.reduceLT, ↓reduceIte, eq_self, hn, h12, Try.results13]
      exact ⟨ho, by rw [← hbase]; exact hof, by rw [← hbase]; exact hS8⟩
end Go.Proofs.Ytoddiggebjbnnaa
