/-
  Deflate by the fixed codes: the reference.
-/
import Derived.Test.YtnclklboogdoiaaFixY
set_option linter.unusedSimpArgs false
set_option linter.unusedVariables false
set_option maxRecDepth 100000
namespace Go.Cl.Fx
open Go.Cl.Rw Go.Cl.Sto
theorem rput_mod (p : List UInt8 × Nat) (x : Int) : rput p (x % 2) 1 = rput p x 1 := by
  show rbit p ((x % 2).fdiv (2 ^ 0)) = rbit p (x.fdiv (2 ^ 0))
  have e1 : (x % 2).fdiv (2 ^ 0) = x % 2 := by simp
  have e2 : x.fdiv (2 ^ 0) = x := by simp
  rw [e1, e2]
  unfold rbit setb
  rw [show x % 2 % 2 = x % 2 by omega]
def upL (i : Nat) : List Nat := (List.range 288).map fun s => if s < i then (symC s).2 else 0
theorem upL_all : upL 288 = fixL := by
  unfold upL fixL
  refine List.map_congr_left (fun s hs => ?_)
  rw [if_pos (List.mem_range.1 hs)]
theorem up_zero (g : Nat → Nat) (n : Nat) : List.replicate n 0 = (List.range n).map fun s => if s < 0 then g s else 0 := by
  refine List.ext_getElem (by simp) (fun i h1 h2 => by simp)
theorem upL_zero : List.replicate 288 0 = upL 0 := up_zero (fun s => (symC s).2) 288
theorem upL_set {i : Nat} (h : i < 288) : (upL i).set i (symC i).2 = upL (i + 1) := by
  unfold upL
  refine List.ext_getElem (by simp) (fun j h1 h2 => ?_)
  rw [List.getElem_set]
  simp only [List.getElem_map, List.getElem_range]
  by_cases c : i = j
  · subst c; simp
  · rw [if_neg c]
    by_cases c2 : j < i
    · rw [if_pos c2, if_pos (by omega)]
    · rw [if_neg c2, if_neg (by omega)]
def upD (i : Nat) : List Nat := (List.range 32).map fun s => if s < i then 5 else 0
theorem upD_all : upD 32 = fixD := by decide
theorem upD_zero : List.replicate 32 0 = upD 0 := by decide
theorem upD_set {i : Nat} (h : i < 32) : (upD i).set i 5 = upD (i + 1) := by
  unfold upD
  refine List.ext_getElem (by simp) (fun j h1 h2 => ?_)
  rw [List.getElem_set]
  simp only [List.getElem_map, List.getElem_range]
  by_cases c : i = j
  · subst c; simp
  · rw [if_neg c]
    by_cases c2 : j < i
    · rw [if_pos c2, if_pos (by omega)]
    · rw [if_neg c2, if_neg (by omega)]
end Go.Cl.Fx
namespace Go.Proofs.Ytnclklboogdoiaa
open Go.Cl Go.Cl.Rw Go.Cl.Sto Go.Cl.Fx
set_option maxHeartbeats 4000000 in
theorem turned_any {lib : Prims} (hl : lib.at 48 = none) (hlp : lib.at 45 = none) (base : Nat) (s : ASt) (j : Nat) (v : Value) (p : List UInt8 × Nat) (n w : Nat) (h : RowAt base s j v p) (hb : base ≤ s.next) (hp : p.2 + w ≤ 1000000000) (hw : w ≤ 16) :
    Runs Try.prog lib 48 [qptr j, .int .i64 (n : Int), .int .i64 (w : Int)] s fun _ s' => Does base j v s (codeP p n w) s' := by
  refine Runs.enter 20 Try.func48 rfl hl rfl rfl ?_
  intro f hn hf
  have h0 : f.get 0 = qptr j := hf 0
  have h1 : f.get 1 = .int .i64 (n : Int) := hf 1
  have h2 : f.get 2 = .int .i64 (w : Int) := hf 2
  clear hf
  simp (config := { maxSteps := 1000000, implicitDefEqProofs := false }) (disch := omega) only [allW, Nat.reduceLT, ↓reduceIte, hn, h2, wrapI]
  refine Comes.loopAt (fun q f s' => ∃ (k : Nat) (p1 : List UInt8 × Nat), q = k ∧ k ≤ w ∧ Does base j v s p1 s' ∧ p1.2 + k = p.2 + w ∧ codeP p1 n k = codeP p n w ∧ f.n = 20 ∧ f.get 0 = qptr j ∧ f.get 1 = .int .i64 (n : Int) ∧ f.get 6 = .int .i64 ((k : Int) - 1))
    ⟨w, p, rfl, by omega, Does.start h, rfl, rfl, by simp only [n_put, hn], by simp only [get_put, ↓reduceIte, Nat.reduceEqDiff, h0], by simp only [get_put, ↓reduceIte, Nat.reduceEqDiff, h1], by simp only [get_put, ↓reduceIte]⟩ ?_
  clear hn h0 h1 h2 f
  rintro k f s1 ⟨_, p1, rfl, hk, ⟨v1, hr1, hto⟩, hsz, hcd, hn, h0, h1, h6⟩
  by_cases hk0 : k = 0
  · subst hk0
    have d1 : ¬ ((0 : Nat) : Int) - 1 ≥ 0 := by omega
    simp (config := { maxSteps := 1000000, implicitDefEqProofs := false }) (disch := omega) only [allW, wfn_normal, Nat.reduceLT, ↓reduceIte, hn, h6, eq_false d1, Try.results48]
    rw [← hcd]
    exact ⟨v1, hr1, hto⟩
  obtain ⟨m, rfl⟩ : ∃ m, k = m + 1 := ⟨k - 1, by omega⟩
  have e1 : ((m + 1 : Nat) : Int) - 1 = (m : Int) := by omega
  rw [e1] at h6
  have d1 : (m : Int) ≥ 0 := by omega
  simp (config := { maxSteps := 1000000, implicitDefEqProofs := false }) (disch := omega) only [allW, allR, evalAll, Nat.reduceLT, Nat.reduceEqDiff, ↓reduceIte, hn, h0, h1, h6, eq_true d1, conv_int Try.underlying3 Try.underlying29, wrapu64x, shrN, bin_and, and1]
  refine (rput_any hlp base s1 j v1 p1 ((n : Int).fdiv (2 ^ m) % 2) 1 hr1 (Nat.le_trans hb hto.next) (by omega)).mono ?_
  rintro _ s2 ⟨v2, hr2, hto2⟩
  rw [puts_one, rput_mod] at hr2
  simp (config := { maxSteps := 1000000, implicitDefEqProofs := false }) (disch := omega) only [allW, Nat.reduceLT, Nat.reduceEqDiff, ↓reduceIte, hn, h6, wrapI]
  exact wround_next m (by omega) ⟨m, _, rfl, by omega, ⟨v2, hr2, hto.trans hto2⟩, by rw [rput_snd]; omega, hcd, by simp only [n_put, hn], by simp only [get_put, ↓reduceIte, Nat.reduceEqDiff, h0], by simp only [get_put, ↓reduceIte, Nat.reduceEqDiff, h1], by simp only [get_put, ↓reduceIte]⟩
def TablesR (s : ASt) (v : Value) (s' : ASt) : Prop := ∃ a b, v = .tuple #[a, b] ∧ Own s' 1 a 288 (natsV fixL) ∧ Own s' 1 b 32 (natsV fixD) ∧ Fresh s.next a ∧ Fresh s.next b ∧ Stay s.next s s'
set_option maxHeartbeats 4000000 in
theorem tables_any {lib : Prims} (hl : lib.at 34 = none) (s : ASt) : Runs Try.prog lib 34 [] s (TablesR s) := by
  refine Runs.enter 42 Try.func34 rfl hl rfl rfl ?_
  intro f hn hf
  clear hf
  simp (config := { maxSteps := 1000000, implicitDefEqProofs := false }) (disch := omega) only [allW, Nat.reduceLT, ↓reduceIte, hn]
  obtain ⟨B, hB⟩ : ∃ B : Nat → Bool, B = fun j => decide (j < s.next) := ⟨_, rfl⟩
  have hBl : ∀ j, B j = true → j < s.next := by
    intro j h
    rw [hB] at h
    exact of_decide_eq_true h
  refine LB.Drawn.looseK B hBl 0 2 (by kernel_rfl) (by kernel_rfl) ?_
  have hsq := Stay.spare s 2
  have hnq : (spare s 2).next = s.next + 2 := spare_next _ _
  have mk1 : ∀ t : ASt, makeSliceA Try.prog t 64 (.int .i64 288) (.int .i64 288) = newSlice t (List.replicate 288 (.int .i64 0)) 288 1 := fun t => makeInts (n := 288) uCodeF szInt zIntF byIntF (by decide) (by decide)
  have mk2 : ∀ t : ASt, makeSliceA Try.prog t 64 (.int .i64 32) (.int .i64 32) = newSlice t (List.replicate 32 (.int .i64 0)) 32 1 := fun t => makeInts (n := 32) uCodeF szInt zIntF byIntF (by decide) (by decide)
  simp (config := { maxSteps := 1000000, implicitDefEqProofs := false }) (disch := omega) only [allW, allB, ↓reduceIte, mk1]
  refine LB.smake_newSlice (base := s.next) (by rw [List.length_replicate, Nat.mul_one]) (by omega) (Nat.le_refl _) ?_
  intro a s1 ha hia hst1 hnx1 hot1
  simp (config := { maxSteps := 1000000, implicitDefEqProofs := false }) (disch := omega) only [allW, allB, Nat.reduceLT, ↓reduceIte, hn, mk2]
  refine LB.smake_newSlice (base := s.next) (by rw [List.length_replicate, Nat.mul_one]) (by omega) (by omega) ?_
  intro b s2 hb hib hst2 hnx2 hot2
  have hs2 : Stay s.next s s2 := ⟨by omega, fun i hi => by rw [hot2 i (by omega), hot1 i (by omega), hsq.get i hi]⟩
  have hab : ∀ i, idOf a = some i → idOf b ≠ some i := fun i h1 h2 => by
    rw [hia] at h1; rw [hib] at h2
    injection h1 with h1; injection h2 with h2; omega
  have hba : ∀ i, idOf b = some i → idOf a ≠ some i := fun i h1 h2 => hab i h2 h1
  have haF : Fresh s.next a := fun i h => by rw [hia] at h; injection h with h; omega
  have hbF : Fresh s.next b := fun i h => by rw [hib] at h; injection h with h; omega
  have ha2 : Own s2 1 a 288 (natsV (upL 0)) := by
    rw [← upL_zero, ← natsV_rep]
    exact ha.ofPut hnx2 hot2 (fun e => by rw [hia] at e; injection e with e; omega)
  have hb2 : Own s2 1 b 32 (natsV (upD 0)) := by rw [← upD_zero, ← natsV_rep]; exact hb
  clear ha hb
  simp (config := { maxSteps := 1000000, implicitDefEqProofs := false }) (disch := omega) only [allW, allL, allB, Nat.reduceLT, Nat.reduceEqDiff, ↓reduceIte, allW, Nat.reduceLT, Nat.reduceEqDiff, ↓reduceIte, hn, ha2.self, hb2.self]
  refine Comes.loopOut (fun z f t => ∃ i : Nat, z = 288 - i ∧ i ≤ 288 ∧ Own t 1 a 288 (natsV (upL i)) ∧ Own t 1 b 32 (natsV (upD 0)) ∧ Stay s.next s t ∧ f.n = 42 ∧ f.get 2 = a ∧ f.get 3 = b ∧ f.get 4 = .int .i64 (i : Nat))
    (fun z f t => z = .exit 0 ∧ Own t 1 a 288 (natsV fixL) ∧ Own t 1 b 32 (natsV (upD 0)) ∧ Stay s.next s t ∧ f.n = 42 ∧ f.get 2 = a ∧ f.get 3 = b)
    ⟨0, rfl, by omega, ha2, hb2, hs2, by simp only [n_put, hn], by simp only [get_put, ↓reduceIte, Nat.reduceEqDiff], by simp only [get_put, ↓reduceIte, Nat.reduceEqDiff], by simp only [get_put, ↓reduceIte]; rfl⟩ ?_ ?_
  · clear hn f ha2 hb2
    rintro Q hQ z f t ⟨i, rfl, hi, ha2, hb2, hst, hn, h2, h3, h4⟩
    by_cases hlt : i < 288
    rotate_left
    · obtain rfl : i = 288 := by omega
      have d1 : ¬ ((288 : Nat) : Int) < 288 := by omega
      rw [upL_all] at ha2
      simp (config := { maxSteps := 1000000, implicitDefEqProofs := false }) (disch := omega) only [allW, Nat.reduceLT, ↓reduceIte, hn, h4, eq_false d1]
      exact hQ _ _ _ ⟨rfl, ha2, hb2, hst, by simp only [n_put, hn], by simp only [get_put, ↓reduceIte, Nat.reduceEqDiff, h2], by simp only [get_put, ↓reduceIte, Nat.reduceEqDiff, h3]⟩
    have d1 : (i : Int) < 288 := by omega
    have hix := ha2.sees.indexAddr (P := Try.prog) (k := .i64) (x := (i : Int)) uCodeF szInt (by omega) (by omega)
    rw [Int.toNat_natCast] at hix
    have hst0 := upL_set hlt
    have key : ∀ (f' : AFr) (w : Nat), (symC i).2 = w → f'.n = 42 → f'.get 2 = a → f'.get 3 = b → f'.get 4 = .int .i64 (i : Nat) → ∀ t2, Own t2 1 a 288 ((natsV (upL i)).set i (.int .i64 ((w : Nat) : Int))) → Turns a t t2 → Own t2 1 a 288 (natsV (upL (i + 1))) ∧ Own t2 1 b 32 (natsV (upD 0)) ∧ Stay s.next s t2 := by
      intro f' w hw _ _ _ _ t2 h1 h2
      rw [natsV_set, ← hw, hst0] at h1
      exact ⟨h1, hb2.turns h2 (fun j hj => hba j hj), hst.trans (h2.keeps haF hst.next)⟩
    unfold symC at key
    by_cases c1 : i < 144
    · have d2 : (i : Int) ≤ 143 := by omega
      rw [if_pos c1] at key
      simp (config := { maxSteps := 1000000, implicitDefEqProofs := false }) (disch := omega) only [allW, Nat.reduceLT, Nat.reduceEqDiff, ↓reduceIte, hn, h2, h4, eq_true d1, eq_true d2, hix]
      refine wstep_storeElem szInt ha2 hlt rfl ?_
      intro t2 hy2 ht2
      obtain ⟨k1, k2, k3⟩ := key f 8 rfl hn h2 h3 h4 t2 hy2 ht2
      simp (config := { maxSteps := 1000000, implicitDefEqProofs := false }) (disch := omega) only [allW, Nat.reduceLT, Nat.reduceEqDiff, ↓reduceIte, hn, h4, wrapI]
      exact wround_next (288 - (i + 1)) (by omega) ⟨i + 1, rfl, by omega, k1, k2, k3, by simp only [n_put, hn], by simp only [get_put, ↓reduceIte, Nat.reduceEqDiff, h2], by simp only [get_put, ↓reduceIte, Nat.reduceEqDiff, h3], by simp only [get_put, ↓reduceIte]; rfl⟩
    have d2 : ¬ (i : Int) ≤ 143 := by omega
    rw [if_neg c1] at key
    by_cases c2 : i < 256
    · have d3 : (i : Int) ≤ 255 := by omega
      rw [if_pos c2] at key
      simp (config := { maxSteps := 1000000, implicitDefEqProofs := false }) (disch := omega) only [allW, Nat.reduceLT, Nat.reduceEqDiff, ↓reduceIte, hn, h2, h4, eq_true d1, eq_false d2, eq_true d3, hix]
      refine wstep_storeElem szInt ha2 hlt rfl ?_
      intro t2 hy2 ht2
      obtain ⟨k1, k2, k3⟩ := key f 9 rfl hn h2 h3 h4 t2 hy2 ht2
      simp (config := { maxSteps := 1000000, implicitDefEqProofs := false }) (disch := omega) only [allW, Nat.reduceLT, Nat.reduceEqDiff, ↓reduceIte, hn, h4, wrapI]
      exact wround_next (288 - (i + 1)) (by omega) ⟨i + 1, rfl, by omega, k1, k2, k3, by simp only [n_put, hn], by simp only [get_put, ↓reduceIte, Nat.reduceEqDiff, h2], by simp only [get_put, ↓reduceIte, Nat.reduceEqDiff, h3], by simp only [get_put, ↓reduceIte]; rfl⟩
    have d3 : ¬ (i : Int) ≤ 255 := by omega
    rw [if_neg c2] at key
    by_cases c3 : i < 280
    · have d4 : (i : Int) ≤ 279 := by omega
      rw [if_pos c3] at key
      simp (config := { maxSteps := 1000000, implicitDefEqProofs := false }) (disch := omega) only [allW, Nat.reduceLT, Nat.reduceEqDiff, ↓reduceIte, hn, h2, h4, eq_true d1, eq_false d2, eq_false d3, eq_true d4, hix]
      refine wstep_storeElem szInt ha2 hlt rfl ?_
      intro t2 hy2 ht2
      obtain ⟨k1, k2, k3⟩ := key f 7 rfl hn h2 h3 h4 t2 hy2 ht2
      simp (config := { maxSteps := 1000000, implicitDefEqProofs := false }) (disch := omega) only [allW, Nat.reduceLT, Nat.reduceEqDiff, ↓reduceIte, hn, h4, wrapI]
      exact wround_next (288 - (i + 1)) (by omega) ⟨i + 1, rfl, by omega, k1, k2, k3, by simp only [n_put, hn], by simp only [get_put, ↓reduceIte, Nat.reduceEqDiff, h2], by simp only [get_put, ↓reduceIte, Nat.reduceEqDiff, h3], by simp only [get_put, ↓reduceIte]; rfl⟩
    · have d4 : ¬ (i : Int) ≤ 279 := by omega
      rw [if_neg c3] at key
      simp (config := { maxSteps := 1000000, implicitDefEqProofs := false }) (disch := omega) only [allW, Nat.reduceLT, Nat.reduceEqDiff, ↓reduceIte, hn, h2, h4, eq_true d1, eq_false d2, eq_false d3, eq_false d4, hix]
      refine wstep_storeElem szInt ha2 hlt rfl ?_
      intro t2 hy2 ht2
      obtain ⟨k1, k2, k3⟩ := key f 8 rfl hn h2 h3 h4 t2 hy2 ht2
      simp (config := { maxSteps := 1000000, implicitDefEqProofs := false }) (disch := omega) only [allW, Nat.reduceLT, Nat.reduceEqDiff, ↓reduceIte, hn, h4, wrapI]
      exact wround_next (288 - (i + 1)) (by omega) ⟨i + 1, rfl, by omega, k1, k2, k3, by simp only [n_put, hn], by simp only [get_put, ↓reduceIte, Nat.reduceEqDiff, h2], by simp only [get_put, ↓reduceIte, Nat.reduceEqDiff, h3], by simp only [get_put, ↓reduceIte]; rfl⟩
  clear hn f ha2 hb2
  rintro z f t ⟨rfl, ha2, hb2, hst, hn, h2, h3⟩
  simp (config := { maxSteps := 1000000, implicitDefEqProofs := false }) (disch := omega) only [allW, Nat.reduceLT, ↓reduceIte, hn]
  refine Comes.loopOut (fun z f t => ∃ i : Nat, z = 32 - i ∧ i ≤ 32 ∧ Own t 1 a 288 (natsV fixL) ∧ Own t 1 b 32 (natsV (upD i)) ∧ Stay s.next s t ∧ f.n = 42 ∧ f.get 2 = a ∧ f.get 3 = b ∧ f.get 5 = .int .i64 (i : Nat))
    (fun z f t => z = .exit 3 ∧ Own t 1 a 288 (natsV fixL) ∧ Own t 1 b 32 (natsV fixD) ∧ Stay s.next s t ∧ f.n = 42 ∧ f.get 2 = a ∧ f.get 3 = b)
    ⟨0, rfl, by omega, ha2, hb2, hst, by simp only [n_put, hn], by simp only [get_put, ↓reduceIte, Nat.reduceEqDiff, h2], by simp only [get_put, ↓reduceIte, Nat.reduceEqDiff, h3], by simp only [get_put, ↓reduceIte]; rfl⟩ ?_ ?_
  · clear hn h2 h3 f ha2 hb2 hst
    rintro Q hQ z f t ⟨i, rfl, hi, ha2, hb2, hst, hn, h2, h3, h5⟩
    by_cases hlt : i < 32
    rotate_left
    · obtain rfl : i = 32 := by omega
      have d1 : ¬ ((32 : Nat) : Int) < 32 := by omega
      rw [upD_all] at hb2
      simp (config := { maxSteps := 1000000, implicitDefEqProofs := false }) (disch := omega) only [allW, Nat.reduceLT, ↓reduceIte, hn, h5, eq_false d1]
      exact hQ _ _ _ ⟨rfl, ha2, hb2, hst, by simp only [n_put, hn], by simp only [get_put, ↓reduceIte, Nat.reduceEqDiff, h2], by simp only [get_put, ↓reduceIte, Nat.reduceEqDiff, h3]⟩
    have d1 : (i : Int) < 32 := by omega
    have hix := hb2.sees.indexAddr (P := Try.prog) (k := .i64) (x := (i : Int)) uCodeF szInt (by omega) (by omega)
    rw [Int.toNat_natCast] at hix
    simp (config := { maxSteps := 1000000, implicitDefEqProofs := false }) (disch := omega) only [allW, Nat.reduceLT, Nat.reduceEqDiff, ↓reduceIte, hn, h3, h5, eq_true d1, hix]
    refine wstep_storeElem szInt hb2 hlt rfl ?_
    intro t2 hy2 ht2
    have hy2 : Own t2 1 b 32 ((natsV (upD i)).set i (.int .i64 ((5 : Nat) : Int))) := hy2
    rw [natsV_set, upD_set hlt] at hy2
    simp (config := { maxSteps := 1000000, implicitDefEqProofs := false }) (disch := omega) only [allW, Nat.reduceLT, Nat.reduceEqDiff, ↓reduceIte, hn, h5, wrapI]
    exact wround_next (32 - (i + 1)) (by omega) ⟨i + 1, rfl, by omega, ha2.turns ht2 (fun j hj => hab j hj), hy2, hst.trans (ht2.keeps hbF hst.next), by simp only [n_put, hn], by simp only [get_put, ↓reduceIte, Nat.reduceEqDiff, h2], by simp only [get_put, ↓reduceIte, Nat.reduceEqDiff, h3], by simp only [get_put, ↓reduceIte]; rfl⟩
  clear hn h2 h3 f ha2 hb2 hst
  rintro z f t ⟨rfl, ha2, hb2, hst, hn, h2, h3⟩
  simp (config := { maxSteps := 1000000, implicitDefEqProofs := false }) (disch := omega) only [allW, wfn_ret, oneOf, Nat.reduceLT, Nat.reduceEqDiff, ↓reduceIte, hn, h2, h3, Try.results34]
  exact ⟨a, b, rfl, ha2, hb2, haF, hbF, hst⟩
end Go.Proofs.Ytnclklboogdoiaa
