/-
  LZW, reading: what codes say, as one function; what was written is read as it was.
-/
import Derived.Test.YtoddiggebjbnnaaLzwF
namespace Go.Cl.Lz
def bitAt (b : List UInt8) (i : Nat) : Nat := (b.getD (i / 8) 0).toNat / 2 ^ (7 - i % 8) % 2
theorem bitAt_lt (b : List UInt8) (i : Nat) : bitAt b i < 2 := Nat.mod_lt _ (by omega)
/-- So many bits as a number, the highest first. -/
def hbits (b : List UInt8) (p : Nat) : Nat → Nat
  | 0 => 0
  | w + 1 => hbits b p w * 2 + bitAt b (p + w)
theorem hbits_lt (b : List UInt8) (p : Nat) : ∀ w, hbits b p w < 2 ^ w
  | 0 => by simp [hbits]
  | w + 1 => by have h1 := hbits_lt b p w; have h2 := bitAt_lt b (p + w); rw [hbits, Nat.pow_succ]; omega
/-- The row that a code is. -/
def rowOf (T : List (List UInt8)) (last : List UInt8) (c : Nat) : Option (List UInt8) :=
  if c < 256 then some [UInt8.ofNat c]
  else if last = [] then none
  else if c = 258 + T.length then some (last ++ last.take 1)
  else T[c - 258]?
def grow (T : List (List UInt8)) (last x : List UInt8) : List (List UInt8) := if last ≠ [] ∧ 258 + T.length < 4096 then T ++ [last ++ x.take 1] else T
/-- Errors: 2: too short, 4: form, 7: limit. -/
def dec (b : List UInt8) (most : Nat) : Nat → Nat → List (List UInt8) → List UInt8 → List UInt8 → Nat × List UInt8
  | 0, _, _, _, out => (0, out)
  | k + 1, p, T, last, out =>
    if 8 * b.length < p + width (258 + T.length) then (2, [])
    else if hbits b p (width (258 + T.length)) = 257 then (0, out)
    else if hbits b p (width (258 + T.length)) = 256 then dec b most k (p + width (258 + T.length)) [] [] out
    else match rowOf T last (hbits b p (width (258 + T.length))) with
      | none => (4, [])
      | some x => if most < out.length + x.length then (7, []) else dec b most k (p + width (258 + T.length)) (grow T last x) x (out ++ x)
def unlzw (b : List UInt8) (most : Nat) : Nat × List UInt8 := dec b most (8 * b.length + 1) 0 [] [] []

theorem dec_short {b : List UInt8} {most k p : Nat} {T : List (List UInt8)} {last out : List UInt8} (h : 8 * b.length < p + width (258 + T.length)) : dec b most (k + 1) p T last out = (2, []) := by rw [dec, if_pos h]
theorem dec_end {b : List UInt8} {most k p : Nat} {T : List (List UInt8)} {last out : List UInt8} (h : ¬ 8 * b.length < p + width (258 + T.length)) (hc : hbits b p (width (258 + T.length)) = 257) : dec b most (k + 1) p T last out = (0, out) := by rw [dec, if_neg h, if_pos hc]
theorem dec_clear {b : List UInt8} {most k p : Nat} {T : List (List UInt8)} {last out : List UInt8} (h : ¬ 8 * b.length < p + width (258 + T.length)) (hc : hbits b p (width (258 + T.length)) = 256) : dec b most (k + 1) p T last out = dec b most k (p + width (258 + T.length)) [] [] out := by rw [dec, if_neg h, if_neg (by omega), if_pos hc]
theorem dec_row {b : List UInt8} {most k p c : Nat} {T : List (List UInt8)} {last out : List UInt8} (h : ¬ 8 * b.length < p + width (258 + T.length)) (hc : hbits b p (width (258 + T.length)) = c) (h7 : c ≠ 257) (h6 : c ≠ 256) :
    dec b most (k + 1) p T last out = match rowOf T last c with
      | none => (4, [])
      | some x => if most < out.length + x.length then (7, []) else dec b most k (p + width (258 + T.length)) (grow T last x) x (out ++ x) := by
  rw [dec, if_neg h, if_neg (by omega), if_neg (by omega), hc]

/-! What was written. -/
def Holds (b : List UInt8) (p : Nat) (L : List Nat) : Prop := ∀ i, i < L.length → p + i < 8 * b.length → bitAt b (p + i) = L.getD i 0
theorem getD_app_left {L M : List Nat} {i : Nat} (h : i < L.length) : (L ++ M).getD i 0 = L.getD i 0 := by
  rw [List.getD_eq_getElem?_getD, List.getD_eq_getElem?_getD, List.getElem?_append_left h]
theorem getD_app_right {L M : List Nat} (i : Nat) : (L ++ M).getD (L.length + i) 0 = M.getD i 0 := by
  rw [List.getD_eq_getElem?_getD, List.getD_eq_getElem?_getD, List.getElem?_append_right (by omega), Nat.add_sub_cancel_left]
theorem Holds.left {b : List UInt8} {p : Nat} {L M : List Nat} (h : Holds b p (L ++ M)) : Holds b p L := fun i hi hb => by
  rw [h i (by rw [List.length_append]; omega) hb, getD_app_left hi]
theorem Holds.right {b : List UInt8} {p : Nat} {L M : List Nat} (h : Holds b p (L ++ M)) : Holds b (p + L.length) M := fun i hi hb => by
  rw [Nat.add_assoc] at hb ⊢
  rw [h (L.length + i) (by rw [List.length_append]; omega) hb, getD_app_right]
theorem hbits_cbits {b : List UInt8} {p c w : Nat} (h : Holds b p (cbits c w)) (hw : p + w ≤ 8 * b.length) : ∀ k, k ≤ w → hbits b p k = c / 2 ^ (w - k) % 2 ^ k := by
  intro k
  induction k with
  | zero => intro _; simp [hbits, Nat.mod_one]
  | succ k ih =>
    intro hk
    have e1 : bitAt b (p + k) = c / 2 ^ (w - (k + 1)) % 2 := by
      rw [h k (by rw [cbits_length]; omega) (by omega), List.getD_eq_getElem?_getD, cbits_at c w k (by omega), Option.getD_some]
    have e2 : w - k = (w - (k + 1)) + 1 := by omega
    rw [hbits, ih (by omega), e1, e2, Nat.pow_succ, ← Nat.div_div_eq_div_mul]
    generalize c / 2 ^ (w - (k + 1)) = q
    rw [Nat.pow_succ, Nat.mul_comm (2 ^ k) 2, Nat.mod_mul]
    omega
where
  cbits_at (c : Nat) : ∀ (w k : Nat), k < w → (cbits c w)[k]? = some (c / 2 ^ (w - (k + 1)) % 2)
  | 0, k, h => by omega
  | w + 1, 0, h => by simp [cbits]
  | w + 1, k + 1, h => by
    simp only [cbits, List.getElem?_cons_succ]
    rw [cbits_at c w k (by omega), show w + 1 - (k + 1 + 1) = w - (k + 1) by omega]
theorem hbits_all {b : List UInt8} {p c w : Nat} (h : Holds b p (cbits c w)) (hw : p + w ≤ 8 * b.length) (hc : c < 2 ^ w) : hbits b p w = c := by
  rw [hbits_cbits h hw w (Nat.le_refl _), Nat.sub_self, Nat.pow_zero, Nat.div_one, Nat.mod_eq_of_lt hc]

/-! Bytes. -/
theorem byte8_bit {l : List Nat} (h : ∀ i, l.getD i 0 < 2) {i : Nat} (hi : i < 8) : (byte8 l).toNat / 2 ^ (7 - i) % 2 = l.getD i 0 := by
  have h0 := h 0; have h1 := h 1; have h2 := h 2; have h3 := h 3; have h4 := h 4; have h5 := h 5; have h6 := h 6; have h7 := h 7
  unfold byte8
  rw [UInt8.toNat_ofNat']
  match i, hi with
  | 0, _ => omega
  | 1, _ => omega
  | 2, _ => omega
  | 3, _ => omega
  | 4, _ => omega
  | 5, _ => omega
  | 6, _ => omega
  | 7, _ => omega
theorem getD_drop8 (l : List Nat) (i : Nat) : (l.drop 8).getD i 0 = l.getD (i + 8) 0 := by
  rw [List.getD_eq_getElem?_getD, List.getD_eq_getElem?_getD, List.getElem?_drop, Nat.add_comm]
theorem pack_bit : ∀ (n : Nat) (L : List Nat) (more : List UInt8), L.length ≤ n → (∀ i, L.getD i 0 < 2) → ∀ i, i < L.length → bitAt (pack L ++ more) i = L.getD i 0
  | 0, L, more, hn, h, i, hi => by omega
  | n + 1, L, more, hn, h, i, hi => by
    have hL : L ≠ [] := by intro e; rw [e] at hi; simp at hi
    rw [pack_cons hL, List.cons_append]
    by_cases h8 : i < 8
    · unfold bitAt
      rw [show i / 8 = 0 by omega, show i % 8 = i by omega, List.getD_cons_zero]
      exact byte8_bit h h8
    · have ih := pack_bit n (L.drop 8) more (by rw [List.length_drop]; omega) (fun i => by rw [getD_drop8]; exact h _) (i - 8) (by rw [List.length_drop]; omega)
      rw [getD_drop8, show i - 8 + 8 = i by omega] at ih
      rw [← ih]
      unfold bitAt
      rw [show i / 8 = (i - 8) / 8 + 1 by omega, show i % 8 = (i - 8) % 8 by omega, List.getD_cons_succ]
theorem pack_length : ∀ (n : Nat) (L : List Nat), L.length ≤ n → (pack L).length = (L.length + 7) / 8
  | 0, L, hn => by
    have : L = [] := List.length_eq_zero_iff.mp (by omega)
    subst this; rw [pack_nil]; rfl
  | n + 1, L, hn => by
    by_cases hL : L = []
    · subst hL; rw [pack_nil]; rfl
    · have : 0 < L.length := List.length_pos_iff.mpr hL
      rw [pack_cons hL, List.length_cons, pack_length n (L.drop 8) (by rw [List.length_drop]; omega), List.length_drop]
      omega

/-! The encoder beside the decoder. -/
def Num (T : Tab) : Prop := ∀ i e, T[i]? = some e → e.2 = ((258 + i : Nat) : Int)
theorem Num.nil : Num [] := fun i e h => by simp at h
theorem Num.snoc {T : Tab} (h : Num T) (r : List UInt8) : Num (T ++ [(r, ((258 + T.length : Nat) : Int))]) := fun i e he => by
  by_cases hi : i < T.length
  · rw [List.getElem?_append_left hi] at he; exact h i e he
  · rw [List.getElem?_append_right (by omega)] at he
    cases hq : i - T.length with
    | zero =>
      rw [hq] at he
      simp at he
      rw [← he, show i = T.length by omega]
      simp
    | succ m => rw [hq] at he; simp at he
theorem width_pow {n : Nat} (h : n < 4096) : n < 2 ^ width n ∧ 257 < 2 ^ width n := by
  unfold width
  repeat (first | (split; all_goals try omega) | omega)
theorem take_snoc {l : List UInt8} {n : Nat} (h : n < l.length) : l.take (n + 1) = l.take n ++ (l.drop n).take 1 := by
  rw [List.take_add]
/-- What holds between two codes. -/
structure Sync (l : List UInt8) (T : Tab) (rd : Nat) (fst : Bool) (D : List (List UInt8)) (last : List UInt8) : Prop where
  good : Good T
  num : Num T
  rd : rd = 258 + D.length
  few : D.length < 3838
  first : fst = true → T = [] ∧ D = [] ∧ last = []
  later : fst = false → last ≠ [] ∧ (l ≠ [] → T.map Prod.fst = D ++ [last ++ l.take 1])
/-- The code that is written, and the row that it is to who reads. -/
theorem Sync.row {l : List UInt8} {T : Tab} {rd : Nat} {fst : Bool} {D : List (List UInt8)} {last : List UInt8} (h : Sync l T rd fst D last) (hl : l ≠ []) {p : Nat × Int} (hp : p = best l T (1, ((l.getD 0 0).toNat : Int))) :
    p.2.toNat < 2 ^ width rd ∧ p.2.toNat ≠ 256 ∧ p.2.toNat ≠ 257 ∧ rowOf D last p.2.toNat = some (l.take p.1) ∧ 1 ≤ p.1 ∧ p.1 ≤ l.length ∧
      (grow D last (l.take p.1)) = T.map Prod.fst ∧ rdOf rd fst = 258 + T.length := by
  have hF := h.good.found hl
  have hst := (best_stand (b := l) (A := T) (c0 := ((l.getD 0 0).toNat : Int)) T (1, ((l.getD 0 0).toNat : Int)) (fun _ h => h) h.good.closed.two (.inl rfl)).1
  rw [← hp] at hF hst
  obtain ⟨x, r, rfl⟩ : ∃ x r, l = x :: r := by cases l with | nil => exact absurd rfl hl | cons x r => exact ⟨x, r, rfl⟩
  have hw : 257 < 2 ^ width rd := (width_pow (by rw [h.rd]; have := h.few; omega)).2
  have hw2 : rd < 2 ^ width rd := (width_pow (by rw [h.rd]; have := h.few; omega)).1
  have hlo := hF.lo
  have hfirst : (x :: r).take 1 = [x] := rfl
  have ht1 : ((x :: r).take p.1).take 1 = [x] := by
    rw [List.take_take, show min 1 p.1 = 1 by have := hF.one; omega]; rfl
  have hg : grow D last ((x :: r).take p.1) = T.map Prod.fst ∧ rdOf rd fst = 258 + T.length := by
    unfold grow rdOf
    cases hfst : fst with
    | true =>
      obtain ⟨rfl, rfl, rfl⟩ := h.first hfst
      have := h.rd
      simp at this ⊢; exact this
    | false =>
      obtain ⟨h1, h2⟩ := h.later hfst
      have h2 := h2 hl
      have h3 := h.few
      have h4 := congrArg List.length h2
      simp only [List.length_map, List.length_append, List.length_singleton] at h4
      rw [if_pos ⟨h1, by omega⟩, ht1, h2]
      refine ⟨rfl, ?_⟩
      have := h.rd
      simp only [Bool.false_eq_true, if_false]; omega
  rcases hst with e | ⟨a1, a2, a3⟩
  · have hx : p.2.toNat = x.toNat := by rw [e]; rfl
    have hx2 := x.toNat_lt
    have hp1 : p.1 = 1 := by rw [e]
    refine ⟨by omega, by omega, by omega, ?_, by omega, hF.le, hg.1, hg.2⟩
    rw [hx, hp1]
    unfold rowOf
    rw [if_pos (by omega), UInt8.ofNat_toNat]
    rfl
  · obtain ⟨i, hi⟩ := List.mem_iff_getElem?.mp a2
    have hc : p.2.toNat = 258 + i := by have := h.num i _ hi; simp only at this; omega
    have hiT : i < T.length := (List.getElem?_eq_some_iff.mp hi).1
    have hnf : fst = false := by
      cases hfst : fst with
      | true => rw [(h.first hfst).1] at hiT; simp at hiT
      | false => rfl
    obtain ⟨h1, h2⟩ := h.later hnf
    have h2 := h2 hl
    have h4 := congrArg List.length h2
    simp only [List.length_map, List.length_append, List.length_singleton] at h4
    have hrow : (T.map Prod.fst)[i]? = some ((x :: r).take p.1) := by rw [List.getElem?_map, hi]; rfl
    refine ⟨by have := h.rd; omega, by omega, by omega, ?_, hF.one, hF.le, hg.1, hg.2⟩
    rw [hc]
    unfold rowOf
    rw [if_neg (by omega), if_neg h1]
    by_cases hn : 258 + i = 258 + D.length
    · rw [if_pos hn]
      rw [h2, show i = D.length by omega, List.getElem?_append_right (by omega), Nat.sub_self] at hrow
      simp only [List.getElem?_cons_zero, Option.some.injEq] at hrow
      rw [← hrow]
      obtain ⟨y, q, hy⟩ : ∃ y q, last = y :: q := by cases last with | nil => exact absurd rfl h1 | cons y q => exact ⟨y, q, rfl⟩
      subst hy
      have := congrArg (fun t => t.take 1) hrow
      simp only [ht1] at this
      rw [List.cons_append, List.take_succ_cons, List.take_zero] at this
      injection this with this
      subst this
      rfl
    · rw [if_neg hn, show 258 + i - 258 = i by omega]
      rw [h2, List.getElem?_append_left (by omega)] at hrow
      exact hrow
theorem dec_enc (b : List UInt8) (most : Nat) : ∀ (k : Nat) (l : List UInt8) (T : Tab) (rd : Nat) (fst : Bool) (D : List (List UInt8)) (last : List UInt8) (p n : Nat) (out : List UInt8),
    l.length < k → Sync l T rd fst D last → Holds b p (enc k l T rd fst) → p ≤ 8 * b.length → 8 * b.length < p + n →
    (out.length + l.length ≤ most → dec b most n p D last out = if 8 * b.length < p + (enc k l T rd fst).length then (2, []) else (0, out ++ l)) ∧
    (most < out.length + l.length → out.length ≤ most → p + (enc k l T rd fst).length ≤ 8 * b.length → dec b most n p D last out = (7, []))
  | 0, l, T, rd, fst, D, last, p, n, out, hk, _, _, _, _ => by omega
  | k + 1, l, T, rd, fst, D, last, p, n, out, hk, hS, hH, hp, hn => by
    obtain ⟨m, rfl⟩ : ∃ m, n = m + 1 := ⟨n - 1, by omega⟩
    have hrd := hS.rd
    have hwp := width_pow (n := rd) (by have := hS.few; omega)
    have hw9 := width_le rd
    by_cases hl : l = []
    · subst hl
      rw [enc_end] at hH ⊢
      rw [cbits_length]
      refine ⟨fun _ => ?_, fun h1 h2 _ => by simp at h1; omega⟩
      by_cases c1 : 8 * b.length < p + width rd
      · rw [if_pos c1]; exact dec_short (by rw [← hrd]; exact c1)
      · rw [if_neg c1, List.append_nil]
        exact dec_end (by rw [← hrd]; exact c1) (by rw [← hrd]; exact hbits_all hH (by omega) hwp.2)
    · obtain ⟨q, hq⟩ : ∃ q, q = best l T (1, ((l.getD 0 0).toNat : Int)) := ⟨_, rfl⟩
      obtain ⟨r1, r2, r3, r4, r5, r6, r7, r8⟩ := hS.row hl hq
      have hF := hS.good.found hl
      rw [← hq] at hF
      obtain ⟨c, hc⟩ : ∃ c, c = q.2.toNat := ⟨_, rfl⟩
      rw [← hc] at r1 r2 r3 r4
      obtain ⟨x, hx⟩ : ∃ x, x = l.take q.1 := ⟨_, rfl⟩
      have hxl : x.length = q.1 := by rw [hx, List.length_take]; omega
      have hx0 : x ≠ [] := by intro e; rw [e] at hxl; simp at hxl; omega
      have hlx : x ++ l.drop q.1 = l := by rw [hx]; exact List.take_append_drop _ _
      have hll : x.length + (l.drop q.1).length = l.length := by rw [← List.length_append, hlx]
      rw [← hx] at r4 r7
      have hTl := hS.good.len
      have hDl : (grow D last x).length = T.length := by rw [r7, List.length_map]
      -- what is written behind this code
      obtain ⟨R, hR, hRall⟩ : ∃ R, enc (k + 1) l T rd fst = cbits c (width rd) ++ R ∧
          ∀ (m : Nat), Holds b (p + width rd) R → p + width rd ≤ 8 * b.length → 8 * b.length < p + width rd + m →
            ((out ++ x).length + (l.drop q.1).length ≤ most → dec b most m (p + width rd) (grow D last x) x (out ++ x) = if 8 * b.length < p + width rd + R.length then (2, []) else (0, out ++ l)) ∧
            (most < (out ++ x).length + (l.drop q.1).length → (out ++ x).length ≤ most → p + width rd + R.length ≤ 8 * b.length → dec b most m (p + width rd) (grow D last x) x (out ++ x) = (7, [])) := by
        by_cases hlt : q.1 < l.length
        · by_cases hcl : 258 + T.length = 4095
          · refine ⟨_, by rw [enc_clear hl hq hlt hcl, ← hc], ?_⟩
            intro m hH2 hp2 hn2
            obtain ⟨m, rfl⟩ : ∃ j, m = j + 1 := ⟨m - 1, by omega⟩
            have e8 : 258 + (grow D last x).length = rdOf rd fst := by rw [hDl, r8]
            have hwp2 := width_pow (n := rdOf rd fst) (by omega)
            by_cases c1 : 8 * b.length < p + width rd + width (rdOf rd fst)
            · rw [dec_short (by rw [e8]; exact c1)]
              rw [List.length_append (as := cbits 256 _), cbits_length]
              exact ⟨fun _ => by rw [if_pos (by omega)], fun _ _ _ => by omega⟩
            · have hb := hbits_all hH2.left (by omega) (c := 256) (by omega)
              have hH3 := hH2.right
              rw [cbits_length] at hH3
              rw [dec_clear (by rw [e8]; exact c1) (by rw [e8]; exact hb), e8]
              have ih := dec_enc b most k (l.drop q.1) [] 258 true [] [] (p + width rd + width (rdOf rd fst)) m (out ++ x) (by omega) ⟨Good.nil, Num.nil, rfl, by simp, fun _ => ⟨rfl, rfl, rfl⟩, fun e => by cases e⟩ hH3 (by omega) (by have := width_le (rdOf rd fst); omega)
              rw [List.append_assoc, hlx] at ih
              rw [List.length_append (as := cbits 256 _), cbits_length, ← Nat.add_assoc]
              exact ih
          · refine ⟨_, by rw [enc_more hl hq hlt hcl, ← hc], ?_⟩
            intro m hH2 hp2 hn2
            have ih := dec_enc b most k (l.drop q.1) (T ++ [(l.take (q.1 + 1), ((258 + T.length : Nat) : Int))]) (rdOf rd fst) false (grow D last x) x (p + width rd) m (out ++ x) (by omega)
              ⟨hF.more hlt hcl, hS.num.snoc _, by rw [r8, hDl], by omega, (fun e => by cases e), fun _ => ⟨hx0, fun _ => by rw [List.map_append, r7, take_snoc hlt, ← hx]; rfl⟩⟩ hH2 hp2 hn2
            rw [List.append_assoc, hlx] at ih
            exact ih
        · have hd0 : l.drop q.1 = [] := List.drop_eq_nil_of_le (by omega)
          refine ⟨_, by rw [enc_all hl hq hlt, ← hc], ?_⟩
          intro m hH2 hp2 hn2
          have ih := dec_enc b most k (l.drop q.1) T (rdOf rd fst) false (grow D last x) x (p + width rd) m (out ++ x) (by omega)
            ⟨hS.good, hS.num, by rw [r8, hDl], by omega, (fun e => by cases e), fun _ => ⟨hx0, fun e => absurd hd0 e⟩⟩ hH2 hp2 hn2
          rw [List.append_assoc, hlx] at ih
          exact ih
      rw [hR] at hH ⊢
      rw [List.length_append, cbits_length]
      by_cases c1 : 8 * b.length < p + width rd
      · rw [dec_short (by rw [← hrd]; exact c1)]
        exact ⟨fun _ => by rw [if_pos (by omega)], fun _ _ _ => by omega⟩
      · have hb := hbits_all hH.left (by omega) r1
        have hH2 := hH.right
        rw [cbits_length] at hH2
        rw [dec_row (by rw [← hrd]; exact c1) (by rw [← hrd]; exact hb) r3 r2, r4]
        simp only
        rw [← hrd]
        obtain ⟨i1, i2⟩ := hRall m hH2 (by omega) (by omega)
        rw [List.length_append] at i1 i2
        rw [← Nat.add_assoc]
        refine ⟨fun hm => ?_, fun hm1 hm2 hm3 => ?_⟩
        · rw [if_neg (by omega)]; exact i1 (by omega)
        · by_cases c2 : most < out.length + x.length
          · rw [if_pos c2]
          · rw [if_neg c2]; exact i2 (by omega) (by omega) hm3
theorem alls_getD (b : List UInt8) (i : Nat) : (alls b).getD i 0 < 2 := by
  by_cases h : i < (alls b).length
  · rw [List.getD_eq_getElem?_getD, List.getElem?_eq_getElem h, Option.getD_some]
    exact alls_bit b _ (List.getElem_mem _)
  · rw [List.getD_eq_getElem?_getD, List.getElem?_eq_none (by omega)]; simp
theorem lzw_length (b : List UInt8) : (lzw b).length = ((alls b).length + 7) / 8 := pack_length _ _ (Nat.le_refl _)
theorem holds_alls {b e : List UInt8} (h : ∀ i, i < (alls b).length → i < 8 * e.length → bitAt e i = bitAt (lzw b) i) : Holds e 0 (alls b) := fun i hi he => by
  rw [Nat.zero_add] at he ⊢
  rw [h i hi he]
  have := pack_bit _ (alls b) [] (Nat.le_refl _) (alls_getD b) i hi
  rw [List.append_nil] at this
  exact this
/-- Of bytes that begin as what was written. -/
theorem unlzw_at {b e : List UInt8} {most : Nat} (hH : Holds e 0 (alls b)) :
    (b.length ≤ most → unlzw e most = if 8 * e.length < (alls b).length then (2, []) else (0, b)) ∧ (most < b.length → (alls b).length ≤ 8 * e.length → unlzw e most = (7, [])) := by
  have h1 := hH.left
  have h2 := hH.right
  rw [cbits_length] at h2
  unfold unlzw
  have hal : (alls b).length = 9 + (enc (b.length + 1) b [] 258 true).length := by unfold alls; rw [List.length_append, cbits_length]
  by_cases c1 : 8 * e.length < 0 + width (258 + ([] : List (List UInt8)).length)
  · have c9 : 8 * e.length < 9 := by simpa [width] using c1
    rw [dec_short c1]
    exact ⟨fun _ => by rw [if_pos (by omega)], fun _ _ => by omega⟩
  · have c9 : ¬ 8 * e.length < 9 := by simpa [width] using c1
    have hb := hbits_all h1 (by omega) (by decide)
    rw [dec_clear c1 hb]
    have ih := dec_enc e most (b.length + 1) b [] 258 true [] [] (0 + 9) (8 * e.length) [] (by omega) ⟨Good.nil, Num.nil, rfl, by simp, fun _ => ⟨rfl, rfl, rfl⟩, fun e => by cases e⟩ h2 (by omega) (by omega)
    rw [hal]
    simp only [List.length_nil, Nat.zero_add, List.nil_append] at ih ⊢
    exact ⟨ih.1, fun a b => ih.2 a (by omega) (by omega)⟩
theorem bitAt_append {a m : List UInt8} {i : Nat} (h : i < 8 * a.length) : bitAt (a ++ m) i = bitAt a i := by
  unfold bitAt
  rw [List.getD_eq_getElem?_getD, List.getD_eq_getElem?_getD, List.getElem?_append_left (by omega)]
theorem bitAt_take {a : List UInt8} {n i : Nat} (h : i < 8 * n) : bitAt (a.take n) i = bitAt a i := by
  unfold bitAt
  rw [List.getD_eq_getElem?_getD, List.getD_eq_getElem?_getD, List.getElem?_take_of_lt (by omega)]
/-- What was written is read as it was, whatever stands behind it, with just so much room. -/
theorem unlzw_back (b more : List UInt8) {most : Nat} (h : b.length ≤ most) : unlzw (lzw b ++ more) most = (0, b) := by
  have hl := lzw_length b
  have hH : Holds (lzw b ++ more) 0 (alls b) := holds_alls (fun i hi _ => bitAt_append (by omega))
  rw [(unlzw_at hH).1 h, if_neg (by rw [List.length_append]; omega)]
theorem unlzw_less (b : List UInt8) {most : Nat} (h : most < b.length) : unlzw (lzw b) most = (7, []) := by
  have hl := lzw_length b
  exact (unlzw_at (holds_alls (fun i hi _ => rfl))).2 h (by omega)
theorem unlzw_cut (b : List UInt8) {n : Nat} (hn : n + 2 = (lzw b).length) {most : Nat} (h : b.length ≤ most) : unlzw ((lzw b).take n) most = (2, []) := by
  have hl := lzw_length b
  have ht : ((lzw b).take n).length = n := by rw [List.length_take]; omega
  have hH : Holds ((lzw b).take n) 0 (alls b) := holds_alls (fun i hi he => bitAt_take (by omega))
  rw [(unlzw_at hH).1 h, if_pos (by omega)]
end Go.Cl.Lz
