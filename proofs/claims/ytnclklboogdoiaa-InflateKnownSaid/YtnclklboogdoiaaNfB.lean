/-
  Blocks as they are, one behind the other: the plain law.
-/
import Derived.Test.YtnclklboogdoiaaStoP
import Derived.Test.YtnclklboogdoiaaNfP
namespace Go.Cl.Jn
open Go.Cl.Sto
def jn : List (List UInt8) → List UInt8
  | [] => []
  | [a] => hdr a.length 1 ++ a
  | a :: b :: r => (hdr a.length 0 ++ a) ++ jn (b :: r)
def jpre (L : List (List UInt8)) : List UInt8 := (L.map fun a => hdr a.length 0 ++ a).flatten
theorem jn_last (a : List UInt8) : jn [a] = hdr a.length 1 ++ a := rfl
theorem jn_more (a : List UInt8) {r : List (List UInt8)} (h : r ≠ []) : jn (a :: r) = hdr a.length 0 ++ (a ++ jn r) := by
  cases r with
  | nil => exact absurd rfl h
  | cons b r => rw [jn, List.append_assoc]
theorem jpre_snoc (L : List (List UInt8)) (a : List UInt8) : jpre (L ++ [a]) = jpre L ++ (hdr a.length 0 ++ a) := by
  unfold jpre; simp
theorem jn_split : ∀ (L : List (List UInt8)) (i : Nat), i < L.length → jn L = jpre (L.take i) ++ jn (L.drop i)
  | L, 0, _ => by simp [jpre]
  | [], i + 1, h => by simp at h
  | a :: r, i + 1, h => by
    have hr : r ≠ [] := fun e => by subst e; simp at h
    rw [jn_more a hr, List.take_succ_cons, List.drop_succ_cons, jn_split r i (by simpa using h)]
    unfold jpre
    simp [List.append_assoc]
theorem take_snocL {L : List (List UInt8)} {i : Nat} (h : i < L.length) : L.take (i + 1) = L.take i ++ [L[i]] := by
  rw [List.take_add_one, List.getElem?_eq_getElem h]; rfl
theorem jn_end {L : List (List UInt8)} {i : Nat} (h : i + 1 = L.length) : jn L = jpre (L.take i) ++ (hdr (L[i]'(by omega)).length 1 ++ L[i]'(by omega)) := by
  rw [jn_split L i (by omega), List.drop_eq_getElem_cons (by omega), List.drop_of_length_le (by omega)]
  rfl
end Go.Cl.Jn
namespace Go.Cl.Nf
open Go.Cl.Sto Go.Cl.Fx Go.Cl.Rw Go.Cl.Jn
theorem symF_of {D : List UInt8} {C : List Nat} {p w q : Nat} (h15 : w ≤ 15) (hD : p + w ≤ 8 * D.length) (hq : q < C.length) (hw : C.getD q 0 = w) (hc : fst C w + (C.take q).count w = hi D p w) (hno : ∀ k, 1 ≤ k → k < w → ¬ symAt D C p k) : ∀ m n, n + m + 1 = w → symF D C p (15 - n) n = .ok (q, p + w)
  | 0, n, h => by
    obtain ⟨h1, h2⟩ := nth_only (D := D) (p := p) hq hw hc
    rw [show 15 - n = (15 - (n + 1)) + 1 by omega]
    unfold symF
    rw [show n + 1 = w by omega, if_pos hD, if_pos h1, h2]
  | m + 1, n, h => by
    rw [show 15 - n = (15 - (n + 1)) + 1 by omega]
    unfold symF
    rw [if_pos (by omega), if_neg (hno (n + 1) (by omega) (by omega))]
    exact symF_of h15 hD hq hw hc hno m (n + 1) (by omega)
theorem sym_of {D : List UInt8} {C : List Nat} {p w q : Nat} (h1 : 1 ≤ w) (h15 : w ≤ 15) (hD : p + w ≤ 8 * D.length) (hq : q < C.length) (hw : C.getD q 0 = w) (hc : fst C w + (C.take q).count w = hi D p w) (hno : ∀ k, 1 ≤ k → k < w → ¬ symAt D C p k) : sym D C p = .ok (q, p + w) :=
  symF_of h15 hD hq hw hc hno (w - 1) 0 (by omega)
theorem fixedL_length : fixedL.length = 288 := by simp [fixedL]
theorem fixedL_at {s : Nat} (h : s < 288) : fixedL.getD s 0 = (symC s).2 := by simp [fixedL, List.getD_eq_getElem?_getD, List.getElem?_map, List.getElem?_range h]
def codeAll : Nat → Bool
  | 0 => true
  | s + 1 => decide (fst fixedL (symC s).2 + (fixedL.take s).count (symC s).2 = (symC s).1) && codeAll s
theorem codeAll_at : ∀ {m : Nat}, codeAll m = true → ∀ s, s < m → fst fixedL (symC s).2 + (fixedL.take s).count (symC s).2 = (symC s).1
  | m + 1, h, s, hs => by
    simp only [codeAll, Bool.and_eq_true, decide_eq_true_eq] at h
    by_cases e : s = m
    · subst e; exact h.1
    · exact codeAll_at h.2 s (by omega)
set_option maxRecDepth 100000 in
theorem fixed_code {s : Nat} (h : s < 288) : fst fixedL (symC s).2 + (fixedL.take s).count (symC s).2 = (symC s).1 := codeAll_at (m := 288) (by decide +kernel) s h
theorem fixedD_at {i : Nat} (h : i < 32) : fixedD.getD i 0 = 5 := by
  have key : ∀ i, i < 32 → fixedD.getD i 0 = 5 := by decide
  exact key i h
theorem fixedD_code {i : Nat} (h : i < 32) : fst fixedD 5 + (fixedD.take i).count 5 = i := by
  have key : ∀ i, i < 32 → fst fixedD 5 + (fixedD.take i).count 5 = i := by decide +kernel
  exact key i h
theorem sym_back {p : List UInt8 × Nat} (h : Fine p) {s : Nat} (hs : s < 288) {D : List UInt8} {nb : Nat} (hD : Pre (symP p s) (D, nb)) (hnb : nb ≤ 8 * D.length) : sym D fixedL p.2 = .ok (s, (symP p s).2) := by
  have hc := symC_lt hs
  have hw := symC_snd s
  have hle : (symP p s).2 ≤ nb := hD.le
  rw [symP_snd] at hle ⊢
  have e := codeP_read h (symC s).1 (symC s).2 hD (Nat.le_refl _)
  rw [Nat.sub_self, Nat.pow_zero, Nat.div_one, Nat.mod_eq_of_lt hc] at e
  refine sym_of (by omega) (by omega) (by omega) (by rw [fixedL_length]; exact hs) (fixedL_at hs) (by rw [fixed_code hs, e]) (fun k h1 hk hat => ?_)
  obtain ⟨k1, k2, k3⟩ := nth_at hat
  rw [fixedL_length] at k1
  rw [fixedL_at k1] at k2
  have k4 := fixed_code k1
  rw [k2, k3, codeP_read h (symC s).1 (symC s).2 hD (Nat.le_of_lt hk)] at k4
  have := symC_pre hs k1 (Nat.le_of_lt hk) k2 k4.symm
  rw [this] at k2
  omega
theorem dst_sym {p : List UInt8 × Nat} (h : Fine p) {q : Nat} (hq : q < 32) {D : List UInt8} {nb : Nat} (hD : Pre (codeP p q 5) (D, nb)) (hnb : nb ≤ 8 * D.length) : sym D fixedD p.2 = .ok (q, p.2 + 5) := by
  have hle : (codeP p q 5).2 ≤ nb := hD.le
  rw [codeP_snd] at hle
  have e5 : hi D p.2 5 = q := by
    rw [codeP_read h q 5 hD (Nat.le_refl _)]
    simp
    omega
  refine sym_of (by omega) (by omega) (by omega) (by have : fixedD.length = 32 := rfl; omega) (fixedD_at hq) (by rw [fixedD_code hq, e5]) (fun k h1 hk hat => ?_)
  obtain ⟨k1, k2, -⟩ := nth_at hat
  rw [fixedD_at k1] at k2
  omega
theorem takeN_nx {l : List UInt8} {a : Nat} (h : a < l.length) : l.take (a + 1) = l.take a ++ [l.getD a 0] := by
  rw [List.take_add_one, List.getElem?_eq_getElem h, List.getD_eq_getElem?_getD, List.getElem?_eq_getElem h]; rfl
theorem rep_back {l : List UInt8} {M d : Nat} (hM : l.length ≤ M) (hd1 : 1 ≤ d) : ∀ m a, (∀ i, i < m → l.getD (a + i - d) 0 = l.getD (a + i) 0) → a + m ≤ l.length → d ≤ a → rep M d m (l.take a) = .ok (l.take (a + m))
  | 0, a, _, _, _ => rfl
  | m + 1, a, h, ha, hd => by
    have hl : (l.take a).length = a := by rw [List.length_take]; omega
    have h0 := h 0 (by omega)
    rw [Nat.add_zero] at h0
    unfold rep
    rw [hl, if_neg (by omega)]
    have e : (l.take a).getD (a - d) 0 = l.getD a 0 := by
      rw [← h0, List.getD_eq_getElem?_getD, List.getElem?_take_of_lt (by omega), List.getD_eq_getElem?_getD]
    rw [e, ← takeN_nx (by omega), rep_back hM hd1 m (a + 1) (fun i hi => by
      have := h (i + 1) (by omega)
      rw [show a + 1 + i = a + (i + 1) by omega]; exact this) (by omega) (by omega), show a + 1 + m = a + (m + 1) by omega]
theorem copy_back {l : List UInt8} {M a n d : Nat} (hM : l.length ≤ M) (h3 : 3 ≤ n) (hn : n ≤ 258) (hd1 : 1 ≤ d) (hd : d ≤ 64) (hda : d ≤ a) (han : a + n ≤ l.length) (hcom : ∀ i, i < n → l.getD (a + i - d) 0 = l.getD (a + i) 0) {p : List UInt8 × Nat} (h : Fine p) {D : List UInt8} {nb : Nat} (hD : Pre (againP p n d) (D, nb)) (hnb : nb ≤ 8 * D.length) :
    sym D fixedL p.2 = .ok ((lenC n).1, (symP p (lenC n).1).2) ∧ 257 ≤ (lenC n).1 ∧ copyX D M fixedD (lenC n).1 (symP p (lenC n).1).2 (l.take a) = .ok ((againP p n d).2, l.take (a + n)) := by
  have hls2 := len_small h3 hn
  have hds2 := dst_same hd1 hd
  have hlb := len_back h3 hn
  have hdb := dst_back hd1 hd
  obtain ⟨f1, g1⟩ := symP_fine h (lenC n).1
  obtain ⟨f2, g2⟩ := putE_fine f1 (lenC n).2.1 (lenC n).2.2
  obtain ⟨f3, g3, -⟩ := codeP_fine (n := (dstC d).1) 5 f2
  obtain ⟨f4, g4⟩ := putE_fine f3 (dstC d).2.1 (dstC d).2.2
  have hPS : Pre (putE (codeP (putE (symP p (lenC n).1) (lenC n).2.1 (lenC n).2.2) (dstC d).1 5) (dstC d).2.1 (dstC d).2.2) (D, nb) := hD
  have P3 := g4.trans hPS
  have P2 := g3.trans P3
  have P1 := g2.trans P2
  have z2 : (putE (symP p (lenC n).1) (lenC n).2.1 (lenC n).2.2).2 ≤ nb := P2.le
  have z4 : (putE (codeP (putE (symP p (lenC n).1) (lenC n).2.1 (lenC n).2.2) (dstC d).1 5) (dstC d).2.1 (dstC d).2.2).2 ≤ nb := hPS.le
  have y2 : (putE (symP p (lenC n).1) (lenC n).2.1 (lenC n).2.2).2 = (symP p (lenC n).1).2 + (lenC n).2.2 := putE_snd ..
  have y3 : (codeP (putE (symP p (lenC n).1) (lenC n).2.1 (lenC n).2.2) (dstC d).1 5).2 = (putE (symP p (lenC n).1) (lenC n).2.1 (lenC n).2.2).2 + 5 := codeP_snd ..
  have y4 : (putE (codeP (putE (symP p (lenC n).1) (lenC n).2.1 (lenC n).2.2) (dstC d).1 5) (dstC d).2.1 (dstC d).2.2).2 = (codeP (putE (symP p (lenC n).1) (lenC n).2.1 (lenC n).2.2) (dstC d).1 5).2 + (dstC d).2.2 := putE_snd ..
  have x1 := putE_read f1 (lenC n).2.1 (lenC n).2.2 P2
  have x2 := putE_read f3 (dstC d).2.1 (dstC d).2.2 hPS
  rw [Nat.mod_eq_of_lt hls2.2.2.2] at x1
  rw [Nat.mod_eq_of_lt hds2.2.2.2] at x2
  have hl : (l.take a).length = a := by rw [List.length_take]; omega
  refine ⟨sym_back h (by omega) P1 hnb, hls2.2.1, ?_⟩
  have s2 := dst_sym f2 (q := (dstC d).1) (by omega) P3 hnb
  unfold copyX
  rw [if_neg (by omega), hlb.2, takeE_ok (by omega), x1]
  dsimp only
  rw [← y2, s2]
  dsimp only
  rw [if_neg (by omega), hdb.2, ← y3, takeE_ok (by omega), x2]
  dsimp only
  rw [hdb.1, hlb.1, hl, if_neg (by omega), rep_back hM hd1 n a hcom han hda]
  dsimp only
  rw [← y4]
  rfl
theorem coded_back {l : List UInt8} {M : Nat} (hM : l.length ≤ M) {D : List UInt8} {nb : Nat} (hD : Pre (fixP l) (D, nb)) (hnb : nb ≤ 8 * D.length) : ∀ (k a : Nat) (p : List UInt8 × Nat), l.length < a + k → a ≤ l.length → Fine p → fixA l a p = fixA l 0 headP → codedX D M fixedL fixedD k p.2 (l.take a) = .ok ((fixP l).2, l)
  | 0, a, p, h, ha, _, _ => by omega
  | k + 1, a, p, h, ha, hp, hfx => by
    have hfin : fixP l = symP (fixA l 0 headP) 256 := fixP_eq l
    unfold codedX
    by_cases hlt : a < l.length
    rotate_left
    · obtain rfl : a = l.length := by omega
      rw [fixA_end l p (Nat.le_refl _)] at hfx
      have hPre : Pre (symP p 256) (D, nb) := by rw [hfx, ← hfin]; exact hD
      rw [sym_back hp (by decide) hPre hnb]
      dsimp only
      rw [if_pos rfl, List.take_length, hfin, hfx]
    have hgt := stepA_gt l a
    have hle := stepA_le l hlt
    rw [fixA_step l p hlt] at hfx
    obtain ⟨hpS, hpS2⟩ := stepP_fine l a hp
    obtain ⟨hfA, hfA2⟩ := fixA_fine l l.length (stepA l a) (stepP l a p) (by omega) hpS
    rw [hfx] at hfA hfA2
    have hPS : Pre (stepP l a p) (D, nb) := hfA2.trans (by rw [hfin] at hD; exact (symP_fine hfA 256).2.trans hD)
    have ih := coded_back hM hD hnb k (stepA l a) (stepP l a p) (by omega) hle hpS hfx
    by_cases c3 : (best l a (far a)).1 < 3
    · have eA : stepA l a = a + 1 := by unfold stepA; rw [if_pos c3]
      have eP : stepP l a p = symP p (l.getD a 0).toNat := by unfold stepP; rw [if_pos c3]
      rw [eP] at hPS ih
      rw [eA] at ih
      have hc := (l.getD a 0).toNat_lt
      have hl : (l.take a).length = a := by rw [List.length_take]; omega
      rw [sym_back hp (by omega) hPS hnb]
      dsimp only
      rw [if_neg (by omega), if_pos (by omega), hl, if_neg (by omega), show UInt8.ofNat (l.getD a 0).toNat = l.getD a 0 from UInt8.ofNat_toNat, ← takeN_nx hlt]
      exact ih
    · have hbf := best_far c3
      have eA : stepA l a = a + (best l a (far a)).1 := by unfold stepA; rw [if_neg c3]
      have eP : stepP l a p = againP p (best l a (far a)).1 (best l a (far a)).2 := by unfold stepP; rw [if_neg c3]
      rw [eA] at hle ih
      rw [eP] at hPS ih
      have hcom := com_eq l a (best l a (far a)).2
      rw [← hbf.2.2.2.2.2] at hcom
      obtain ⟨s1, s2, s3⟩ := copy_back hM hbf.1 hbf.2.1 hbf.2.2.1 hbf.2.2.2.1 hbf.2.2.2.2.1 hle hcom hp hPS hnb
      rw [s1]
      dsimp only
      rw [if_neg (by omega), if_neg (by omega), s3]
      exact ih
theorem bit_front' {l T : List UInt8} {i : Nat} (h : i < 8 * l.length) : bit (l ++ T) i = bit l i := bit_ext l T h
theorem pre_front' (l T : List UInt8) : Pre (fixP l) (fixed l ++ T, 8 * (fixed l ++ T).length) := by
  have h := (fixP_ok l).1.1
  have h : (fixP l).2 ≤ 8 * (fixed l).length := h
  refine ⟨by show (fixP l).2 ≤ 8 * (fixed l ++ T).length; rw [List.length_append]; omega, fun i hi => ?_⟩
  exact bit_front' (by omega)
theorem pre_head' (l : List UInt8) : Pre headP (fixP l) := by
  rw [fixP_eq]
  obtain ⟨h1, h2⟩ := fixA_fine l l.length 0 headP (by omega) headP_fine
  exact h2.trans (symP_fine h1 256).2
theorem head_read' (l T : List UInt8) : bitsN (fixed l ++ T) 0 1 = 1 ∧ bitsN (fixed l ++ T) 1 2 = 1 := by
  have h := (pre_head' l).trans (pre_front' l T)
  have b0 := h.bits 0 (by decide)
  have b1 := h.bits 1 (by decide)
  have b2 := h.bits 2 (by decide)
  have c0 : bit headP.1 0 = 1 := by decide
  have c1 : bit headP.1 1 = 1 := by decide
  have c2 : bit headP.1 2 = 0 := by decide
  rw [c0] at b0
  rw [c1] at b1
  rw [c2] at b2
  have b0 : bit (fixed l ++ T) 0 = 1 := b0
  have b1 : bit (fixed l ++ T) 1 = 1 := b1
  have b2 : bit (fixed l ++ T) 2 = 0 := b2
  constructor
  · simp only [bitsN, Nat.add_zero]; rw [b0]
  · simp only [bitsN, Nat.add_zero]; rw [b1, show 1 + 1 = 2 from rfl, b2]
theorem fixed_end' (l : List UInt8) : ((fixP l).2 + 7) / 8 = (fixed l).length := by
  have h := (fixP_ok l).1
  have h1 : (fixP l).2 ≤ 8 * (fixed l).length := h.1
  have h2 : 8 * (fixed l).length < (fixP l).2 + 8 := h.2
  omega
theorem fixed_read (N : Nat) (l T : List UInt8) {M : Nat} (hM : l.length ≤ M) (hN : l.length + 1 ≤ N) : inflX N (fixed l ++ T) M = .ok ((fixP l).2, l) := by
  obtain ⟨k, rfl⟩ : ∃ k, N = k + 1 := ⟨N - 1, by omega⟩
  have hpre := pre_front' l T
  have h3 : headP.2 = 3 := headP_ok.2
  have hle : headP.2 ≤ 8 * (fixed l ++ T).length := ((pre_head' l).trans hpre).le
  obtain ⟨b1, b2⟩ := head_read' l T
  have hc := coded_back hM hpre (Nat.le_refl _) (k + 1) 0 headP (by omega) (by omega) headP_fine rfl
  rw [List.take_zero, h3] at hc
  have hb : blockX (k + 1) (fixed l ++ T) M 0 [] = .ok (1, (fixP l).2, l) := by
    unfold blockX
    rw [takeE_ok (by omega), b1]
    dsimp only
    rw [Nat.zero_add, takeE_ok (by omega), b2]
    dsimp only
    unfold bodyX
    rw [if_neg (by decide), if_pos rfl, hc]
  unfold inflX blocksX
  rw [hb]
  dsimp only
  rw [if_pos rfl]
theorem getD_drop {D X : List UInt8} {a : Nat} (h : D.drop a = X) (j : Nat) : D.getD (a + j) 0 = X.getD j 0 := by
  rw [List.getD_eq_getElem?_getD, ← List.getElem?_drop, h, List.getD_eq_getElem?_getD]
theorem stoF_read {D T : List UInt8} {M : Nat} : ∀ (x : List UInt8) (a : Nat) (P : List UInt8), D.drop a = x ++ T → P.length + x.length ≤ M → stoF D M x.length a P = .ok (8 * (a + x.length), P ++ x)
  | [], a, P, _, _ => by simp [stoF]
  | c :: x, a, P, h, hM => by
    have ha : a < D.length := by
      have := congrArg List.length h
      simp at this; omega
    have e : D.getD a 0 = c := by have := getD_drop h 0; rw [Nat.add_zero] at this; rw [this]; rfl
    have hd : D.drop (a + 1) = x ++ T := by rw [← List.drop_drop, h]; rfl
    rw [List.length_cons] at hM ⊢
    unfold stoF
    rw [if_pos ha, if_neg (by omega), e, stoF_read x (a + 1) (P ++ [c]) hd (by rw [List.length_append, List.length_singleton]; omega), List.append_assoc, show a + 1 + x.length = a + (x.length + 1) by omega]
    rfl
theorem block_sto (N : Nat) {D x T : List UInt8} {M a last : Nat} {P : List UInt8} (h : D.drop a = hdr x.length last ++ (x ++ T)) (hl : last < 2) (hx : x.length ≤ 65535) (hM : P.length + x.length ≤ M) : blockX N D M (8 * a) P = .ok (last, 8 * (a + 5 + x.length), P ++ x) := by
  have d0 := getD_drop h 0
  have d1 := getD_drop h 1
  have d2 := getD_drop h 2
  have d3 := getD_drop h 3
  have d4 := getD_drop h 4
  rw [Nat.add_zero] at d0
  have e0 : D.getD a 0 = UInt8.ofNat last := d0
  have e1 : D.getD (a + 1) 0 = UInt8.ofNat x.length := d1
  have e2 : D.getD (a + 1 + 1) 0 = UInt8.ofNat (x.length / 256) := d2
  have e3 : D.getD (a + 1 + 2) 0 = UInt8.ofNat (255 - x.length % 256) := d3
  have e4 : D.getD (a + 1 + 2 + 1) 0 = UInt8.ofNat (255 - x.length / 256 % 256) := d4
  have hlen : a + 5 + x.length ≤ D.length := by
    have := congrArg List.length h
    rw [List.length_drop, List.length_append, List.length_append, hdr_length] at this
    omega
  have b1v : bitsN D (8 * a) 1 = last := by rw [bits1, e0, UInt8.toNat_ofNat']; omega
  have b2v : bitsN D (8 * a + 1) 2 = 0 := by rw [bits2, e0, UInt8.toNat_ofNat']; omega
  have hd5 : D.drop (a + 1 + 4) = x ++ T := by rw [show a + 1 + 4 = a + 5 by omega, ← List.drop_drop, h]; rfl
  have ha : (8 * a + 1 + 2 + 7) / 8 = a + 1 := by omega
  have n1 : bitsN D (8 * (a + 1)) 16 = x.length := by
    rw [bits16, e1, e2, UInt8.toNat_ofNat', UInt8.toNat_ofNat']; omega
  have n2 : bitsN D (8 * (a + 1) + 16) 16 = 65535 - x.length := by
    rw [show 8 * (a + 1) + 16 = 8 * (a + 1 + 2) by omega, bits16, e3, e4, UInt8.toNat_ofNat', UInt8.toNat_ofNat']; omega
  have hs := stoF_read x (a + 1 + 4) P hd5 hM
  unfold blockX
  rw [takeE_ok (by omega), b1v]
  dsimp only
  rw [takeE_ok (by omega), b2v]
  dsimp only
  unfold bodyX
  rw [if_pos rfl]
  unfold storedX
  rw [show 8 * a + 3 = 8 * a + 1 + 2 by omega, ha, if_pos (by omega), n1, n2, if_pos (by omega), hs]
theorem blocks_sto (N : Nat) {D T : List UInt8} {M : Nat} : ∀ (k : Nat) (l : List UInt8) (a : Nat) (P : List UInt8), D.drop a = sto l ++ T → l.length < k → P.length + l.length ≤ M → blocksX N D M k (8 * a) P = .ok (8 * (a + (sto l).length), P ++ l)
  | 0, l, a, P, _, h, _ => by omega
  | k + 1, l, a, P, hD, h, hM => by
    unfold blocksX
    by_cases c : l.length ≤ 65535
    · rw [sto_last c] at hD ⊢
      rw [List.append_assoc] at hD
      rw [block_sto N hD (by omega) c hM]
      dsimp only
      rw [if_pos rfl, List.length_append, hdr_length]
      rw [show a + 5 + l.length = a + (5 + l.length) by omega]
    · rw [sto_more c] at hD
      have hl : (l.take 65535).length = 65535 := by rw [List.length_take]; omega
      have hD2 : D.drop a = hdr (l.take 65535).length 0 ++ (l.take 65535 ++ (sto (l.drop 65535) ++ T)) := by
        rw [hD, hl]; simp only [List.append_assoc]
      rw [block_sto N hD2 (by omega) (by omega) (by omega)]
      dsimp only
      rw [if_neg (by decide), hl]
      have hd3 : D.drop (a + 5 + 65535) = sto (l.drop 65535) ++ T := by
        rw [← List.drop_drop, ← List.drop_drop, hD2]
        show (((l.take 65535) ++ (sto (l.drop 65535) ++ T))).drop 65535 = _
        rw [List.drop_append_of_le_length (by omega), List.drop_of_length_le (by omega), List.nil_append]
      rw [blocks_sto N k (l.drop 65535) (a + 5 + 65535) (P ++ l.take 65535) hd3 (by rw [List.length_drop]; omega) (by rw [List.length_append, hl, List.length_drop]; omega), List.append_assoc, List.take_append_drop, sto_more c]
      rw [List.length_append, List.length_append, hdr_length, hl]
      rw [show a + 5 + 65535 + (sto (l.drop 65535)).length = a + (5 + 65535 + (sto (l.drop 65535)).length) by omega]
theorem sto_read (N : Nat) (l T : List UInt8) {M : Nat} (hM : l.length ≤ M) (hN : l.length < N) : inflX N (sto l ++ T) M = .ok (8 * (sto l).length, l) := by
  have := blocks_sto N (D := sto l ++ T) (T := T) N l 0 [] rfl hN (by simpa using hM)
  rw [Nat.mul_zero, Nat.zero_add, List.nil_append] at this
  exact this
theorem blocks_jn (N : Nat) {D T : List UInt8} {M : Nat} : ∀ (k : Nat) (L : List (List UInt8)) (a : Nat) (P : List UInt8), D.drop a = jn L ++ T → L ≠ [] → (∀ x ∈ L, x.length ≤ 65535) → L.length ≤ k → P.length + L.flatten.length ≤ M → blocksX N D M k (8 * a) P = .ok (8 * (a + (jn L).length), P ++ L.flatten)
  | _, [], a, P, _, h, _, _, _ => absurd rfl h
  | 0, x :: r, a, P, _, _, _, h, _ => by simp at h
  | k + 1, [x], a, P, hD, _, h, _, hM => by
    unfold blocksX
    rw [jn_last, List.append_assoc] at hD
    simp at hM
    rw [block_sto N hD (by omega) (h x (by simp)) hM]
    dsimp only
    rw [if_pos rfl, jn_last, List.length_append, hdr_length, show a + 5 + x.length = a + (5 + x.length) by omega]
    simp
  | k + 1, x :: y :: r, a, P, hD, _, h, hk, hM => by
    unfold blocksX
    rw [jn_more x (by simp)] at hD ⊢
    rw [List.flatten_cons, List.length_append] at hM
    have hD2 : D.drop a = hdr x.length 0 ++ (x ++ (jn (y :: r) ++ T)) := by rw [hD]; simp only [List.append_assoc]
    rw [block_sto N hD2 (by omega) (h x (by simp)) (by omega)]
    dsimp only
    have hd3 : D.drop (a + 5 + x.length) = jn (y :: r) ++ T := by
      rw [← List.drop_drop, ← List.drop_drop, hD2]
      show ((x ++ (jn (y :: r) ++ T))).drop x.length = _
      rw [List.drop_left]
    rw [if_neg (by decide), blocks_jn N k (y :: r) (a + 5 + x.length) (P ++ x) hd3 (by simp) (fun z hz => h z (by simp at hz ⊢; exact .inr hz)) (by simpa using hk) (by rw [List.length_append]; omega), List.append_assoc, ← List.flatten_cons, List.length_append, List.length_append, hdr_length, show a + 5 + x.length + (jn (y :: r)).length = a + (5 + (x.length + (jn (y :: r)).length)) by omega]
theorem jn_read (N : Nat) {L : List (List UInt8)} (T : List UInt8) {M : Nat} (hL : L ≠ []) (h : ∀ x ∈ L, x.length ≤ 65535) (hN : L.length ≤ N) (hM : L.flatten.length ≤ M) : inflX N (jn L ++ T) M = .ok (8 * (jn L).length, L.flatten) := by
  have := blocks_jn N (D := jn L ++ T) (T := T) N L 0 [] rfl hL h hN (by simpa using hM)
  rw [Nat.mul_zero, Nat.zero_add, List.nil_append] at this
  exact this
end Go.Cl.Nf
