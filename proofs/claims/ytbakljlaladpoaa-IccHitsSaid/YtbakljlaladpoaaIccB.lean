/-
  Profiles: the program's reader: numbers and texts at a place.
-/
import Derived.Test.YtbakljlaladpoaaIccA
set_option linter.unusedSimpArgs false
set_option linter.unusedVariables false
namespace Go.Proofs.Ytbakljlaladpoaa
open Go.Cl Go.Cl.Icc
theorem cptr_self (i : Nat) : valEq (cptr i) (cptr i) = true := by simp only [cptr, valEq_pointer]
def At (base : Nat) (s : ASt) (i : Nat) (l : List UInt8) (k : Nat) (w v : Value) (s' : ASt) : Prop := v = w ∧ CurIs base s' i l (k + 4) ∧ Turns (cptr i) s s'
set_option maxHeartbeats 4000000 in
theorem num_any {lib : Prims} (hl : lib.at 31 = none) (hs : lib.at 33 = none) (hw : lib.at 40 = none) (hlt : lib.at 41 = none) (hl0 : lib.at 46 = none) (hl1 : lib.at 20 = none) (hl2 : lib.at 48 = none) (hl3 : lib.at 47 = none)
    (base : Nat) (s : ASt) (i : Nat) (l : List UInt8) (p k : Nat) (hc : CurIs base s i l p) (hb : base ≤ s.next) (hk : k + 4 ≤ l.length) (hlen : l.length ≤ 100000000) :
    Runs Try.prog lib 31 [.agg #[cptr i], .int .i64 (k : Nat)] s (At base s i l k (.int .i64 (num l k))) := by
  refine Runs.enter 18 Try.func31 rfl hl rfl rfl ?_
  intro f hn hf
  have h0 : f.get 0 = .agg #[cptr i] := hf 0
  have h1 : f.get 1 = .int .i64 (k : Nat) := hf 1
  clear hf
  have hid : i < s.next := by obtain ⟨b, ht, _⟩ := hc; exact ht.lt
  simp (config := { maxSteps := 1000000, implicitDefEqProofs := false }) (disch := omega) only [allW, cond_true, cond_false, oneOf, evalAll, partsA, optA, List.drop_zero, List.drop_succ_cons, List.cons_append, List.nil_append, Nat.reduceLT, Nat.reduceLeDiff, Nat.reduceEqDiff, Nat.reduceAdd, List.getD_cons_zero, List.getD_cons_succ, List.set_cons_zero, List.set_cons_succ, ↓reduceIte, if_true, if_false, beq_self_eq_true, ne_eq, eq_self, not_true_eq_false, not_false_eq_true, hn, h0, h1]
  refine wstep_newPtr ?_
  intro s1 ht1 hst1 hnx1
  have hc1 := hc.keeps hb hst1
  have hb1 := Nat.le_trans hb hst1.next
  have l0 := ht1.load (P := Try.prog) agCp (off := 0) (c := 2) rfl (by simp)
  simp (config := { maxSteps := 1000000, implicitDefEqProofs := false }) (disch := omega) only [allW, cond_true, cond_false, oneOf, evalAll, partsA, optA, List.drop_zero, List.drop_succ_cons, List.cons_append, List.nil_append, Nat.reduceLT, Nat.reduceLeDiff, Nat.reduceEqDiff, Nat.reduceAdd, List.getD_cons_zero, List.getD_cons_succ, List.set_cons_zero, List.set_cons_succ, ↓reduceIte, if_true, if_false, beq_self_eq_true, ne_eq, eq_self, not_true_eq_false, not_false_eq_true, hn, h0, h1, List.length_cons, List.length_nil, rfld0, l0, cptr_self]
  refine (seek_any hs base s1 i l p (k : Int) hc1 hb1).mono ?_
  rintro _ s2 ⟨rfl, hc2, ht2⟩
  rw [if_pos (by omega), Int.toNat_natCast] at hc2
  have hb2 := Nat.le_trans hb1 ht2.next
  have htk := ht1.turns ht2 (cptr_ne (by omega))
  have l2 := htk.load (P := Try.prog) agCp (off := 0) (c := 2) rfl (by simp)
  simp (config := { maxSteps := 1000000, implicitDefEqProofs := false }) (disch := omega) only [allW, cond_true, cond_false, oneOf, evalAll, partsA, optA, List.drop_zero, List.drop_succ_cons, List.cons_append, List.nil_append, Nat.reduceLT, Nat.reduceLeDiff, Nat.reduceEqDiff, Nat.reduceAdd, List.getD_cons_zero, List.getD_cons_succ, List.set_cons_zero, List.set_cons_succ, ↓reduceIte, if_true, if_false, beq_self_eq_true, ne_eq, eq_self, not_true_eq_false, not_false_eq_true, hn, h0, h1, rfld0, l2, cptr_self]
  refine (word_any hw hlt hl0 hl1 hl2 hl3 base s2 i l k 4 hc2 hb2 (by omega)).mono ?_
  rintro _ s3 ⟨rfl, hc3, ht3⟩
  rw [if_pos (by omega)] at hc3
  rw [if_pos (by omega), show takeIs l k 4 = four l k from takeFour hk]
  simp (config := { maxSteps := 1000000, implicitDefEqProofs := false }) (disch := omega) only [allW, wfn_ret, wfn_normal, cond_true, cond_false, oneOf, evalAll, partsA, optA, List.drop_zero, List.drop_succ_cons, List.cons_append, List.nil_append, Nat.reduceLT, Nat.reduceLeDiff, Nat.reduceEqDiff, Nat.reduceAdd, List.getD_cons_zero, List.getD_cons_succ, List.set_cons_zero, List.set_cons_succ, ↓reduceIte, if_true, if_false, beq_self_eq_true, ne_eq, eq_self, not_true_eq_false, not_false_eq_true, hn, show ∀ a b, extractA (.tuple #[a, b]) 0 = some a from fun _ _ => rfl, show ∀ a b, extractA (.tuple #[a, b]) 1 = some b from fun _ _ => rfl, Try.results31]
  exact ⟨rfl, hc3, (Turns.after hst1 ht2).trans ht3⟩
set_option maxHeartbeats 4000000 in
theorem text_any {lib : Prims} (hl : lib.at 32 = none) (hs : lib.at 33 = none) (hlt : lib.at 41 = none) (hl0 : lib.at 46 = none) (hl1 : lib.at 20 = none) (hl2 : lib.at 48 = none) (hl3 : lib.at 47 = none)
    (base : Nat) (s : ASt) (i : Nat) (l : List UInt8) (p k : Nat) (hc : CurIs base s i l p) (hb : base ≤ s.next) (hk : k + 4 ≤ l.length) (hlen : l.length ≤ 100000000) :
    Runs Try.prog lib 32 [.agg #[cptr i], .int .i64 (k : Nat)] s (At base s i l k (.string ⟨(four l k).toArray⟩)) := by
  refine Runs.enter 19 Try.func32 rfl hl rfl rfl ?_
  intro f hn hf
  have h0 : f.get 0 = .agg #[cptr i] := hf 0
  have h1 : f.get 1 = .int .i64 (k : Nat) := hf 1
  clear hf
  have hid : i < s.next := by obtain ⟨b, ht, _⟩ := hc; exact ht.lt
  simp (config := { maxSteps := 1000000, implicitDefEqProofs := false }) (disch := omega) only [allW, cond_true, cond_false, oneOf, evalAll, partsA, optA, List.drop_zero, List.drop_succ_cons, List.cons_append, List.nil_append, Nat.reduceLT, Nat.reduceLeDiff, Nat.reduceEqDiff, Nat.reduceAdd, List.getD_cons_zero, List.getD_cons_succ, List.set_cons_zero, List.set_cons_succ, ↓reduceIte, if_true, if_false, beq_self_eq_true, ne_eq, eq_self, not_true_eq_false, not_false_eq_true, hn, h0, h1]
  refine wstep_newPtr ?_
  intro s1 ht1 hst1 hnx1
  have hc1 := hc.keeps hb hst1
  have hb1 := Nat.le_trans hb hst1.next
  have l0 := ht1.load (P := Try.prog) agCp (off := 0) (c := 2) rfl (by simp)
  simp (config := { maxSteps := 1000000, implicitDefEqProofs := false }) (disch := omega) only [allW, cond_true, cond_false, oneOf, evalAll, partsA, optA, List.drop_zero, List.drop_succ_cons, List.cons_append, List.nil_append, Nat.reduceLT, Nat.reduceLeDiff, Nat.reduceEqDiff, Nat.reduceAdd, List.getD_cons_zero, List.getD_cons_succ, List.set_cons_zero, List.set_cons_succ, ↓reduceIte, if_true, if_false, beq_self_eq_true, ne_eq, eq_self, not_true_eq_false, not_false_eq_true, hn, h0, h1, List.length_cons, List.length_nil, rfld0, l0, cptr_self]
  refine (seek_any hs base s1 i l p (k : Int) hc1 hb1).mono ?_
  rintro _ s2 ⟨rfl, hc2, ht2⟩
  rw [if_pos (by omega), Int.toNat_natCast] at hc2
  have hb2 := Nat.le_trans hb1 ht2.next
  have htk := ht1.turns ht2 (cptr_ne (by omega))
  have l2 := htk.load (P := Try.prog) agCp (off := 0) (c := 2) rfl (by simp)
  simp (config := { maxSteps := 1000000, implicitDefEqProofs := false }) (disch := omega) only [allW, cond_true, cond_false, oneOf, evalAll, partsA, optA, List.drop_zero, List.drop_succ_cons, List.cons_append, List.nil_append, Nat.reduceLT, Nat.reduceLeDiff, Nat.reduceEqDiff, Nat.reduceAdd, List.getD_cons_zero, List.getD_cons_succ, List.set_cons_zero, List.set_cons_succ, ↓reduceIte, if_true, if_false, beq_self_eq_true, ne_eq, eq_self, not_true_eq_false, not_false_eq_true, hn, h0, h1, rfld0, l2, cptr_self]
  refine (take_any hlt hl0 hl1 hl2 hl3 base s2 i l k 4 hc2 hb2 (by omega)).mono ?_
  rintro _ s3 ⟨B, rfl, hB, hBF, hc3, ht3⟩
  rw [if_pos (by omega)] at hc3
  rw [show takeIs l k 4 = four l k from takeFour hk] at hB
  simp (config := { maxSteps := 1000000, implicitDefEqProofs := false }) (disch := omega) only [allW, wfn_ret, wfn_normal, cond_true, cond_false, oneOf, evalAll, partsA, optA, List.drop_zero, List.drop_succ_cons, List.cons_append, List.nil_append, Nat.reduceLT, Nat.reduceLeDiff, Nat.reduceEqDiff, Nat.reduceAdd, List.getD_cons_zero, List.getD_cons_succ, List.set_cons_zero, List.set_cons_succ, ↓reduceIte, if_true, if_false, beq_self_eq_true, ne_eq, eq_self, not_true_eq_false, not_false_eq_true, hn, show ∀ a b, extractA (.tuple #[a, b]) 0 = some a from fun _ _ => rfl, show ∀ a b, extractA (.tuple #[a, b]) 1 = some b from fun _ _ => rfl, hB.sees.str Try.underlying31 Try.underlying9 Try.underlying5, Try.results32]
  exact ⟨rfl, hc3, (Turns.after hst1 ht2).trans ht3⟩
end Go.Proofs.Ytbakljlaladpoaa
