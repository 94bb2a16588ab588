/-
  Rows of one byte: the plain law. What is written and what is read, over lists of bytes.
-/
import Derived.Test.YtcchnnmomigleaaCl1
namespace Go.Cl.Runs

theorem drop_getD (l : List UInt8) (i j : Nat) : (l.drop i).getD j 0 = l.getD (i + j) 0 := by simp [List.getD]
theorem getD_lt {l : List UInt8} {i : Nat} (h : i < l.length) : l.getD i 0 = l[i] := by simp [List.getD, List.getElem?_eq_getElem h]
theorem drop_cons {l : List UInt8} {i : Nat} (h : i < l.length) : l.drop i = l.getD i 0 :: l.drop (i + 1) := by
  rw [getD_lt h]; exact List.drop_eq_getElem_cons h

theorem takeWhile_ge (p : UInt8 → Bool) : ∀ (m : List UInt8) (n : Nat), n ≤ m.length → (∀ j, j < n → p (m.getD j 0) = true) → n ≤ (m.takeWhile p).length := by
  intro m
  induction m with
  | nil => intro n h _; simpa using h
  | cons c r ih =>
    intro n h hp
    cases n with
    | zero => omega
    | succ n =>
      have h0 := hp 0 (by omega)
      have hc : p c = true := h0
      rw [List.takeWhile_cons, if_pos hc]
      simp only [List.length_cons] at h ⊢
      have := ih n (by omega) (fun j hj => hp (j + 1) (by omega))
      omega
theorem takeWhile_eq (p : UInt8 → Bool) : ∀ (m : List UInt8) (n : Nat), n ≤ m.length → (∀ j, j < n → p (m.getD j 0) = true) → (n = m.length ∨ p (m.getD n 0) = false) → (m.takeWhile p).length = n := by
  intro m
  induction m with
  | nil => intro n h _ _; simp at h; simp [h]
  | cons c r ih =>
    intro n h hp he
    cases n with
    | zero =>
      rcases he with he | he
      · simp at he
      · have hc : p c = false := he
        rw [List.takeWhile_cons, hc]; simp
    | succ n =>
      have hc : p c = true := hp 0 (by omega)
      rw [List.takeWhile_cons, if_pos hc]
      simp only [List.length_cons] at h ⊢
      rw [ih n (by omega) (fun j hj => hp (j + 1) (by omega)) (by
        rcases he with he | he
        · left; simp only [List.length_cons] at he; omega
        · right; exact he)]
theorem takeWhile_all (p : UInt8 → Bool) : ∀ (m : List UInt8) (j : Nat), j < (m.takeWhile p).length → p (m.getD j 0) = true := by
  intro m
  induction m with
  | nil => intro j h; simp at h
  | cons c r ih =>
    intro j h
    rw [List.takeWhile_cons] at h
    split at h
    · rename_i hc
      cases j with
      | zero => exact hc
      | succ j => exact ih j (by simpa using h)
    · simp at h

/-- How often the first byte stands in a row. -/
def rowOf (l : List UInt8) : Nat := min 128 (l.takeWhile (fun x => x == l.getD 0 0)).length
theorem rowOf_le (l : List UInt8) : rowOf l ≤ l.length := by
  unfold rowOf
  have : (l.takeWhile (fun x => x == l.getD 0 0)).length ≤ l.length := (List.takeWhile_sublist _).length_le
  omega
theorem rowOf_le128 (l : List UInt8) : rowOf l ≤ 128 := by unfold rowOf; omega
theorem rowOf_pos {l : List UInt8} (h : 0 < l.length) : 1 ≤ rowOf l := by
  unfold rowOf
  have := takeWhile_ge (fun x => x == l.getD 0 0) l 1 h (fun j hj => by obtain rfl : j = 0 := by omega
                                                                        simp)
  omega
theorem rowOf_all (l : List UInt8) (j : Nat) (h : j < rowOf l) : l.getD j 0 = l.getD 0 0 := by
  unfold rowOf at h
  simpa using takeWhile_all (fun x => x == l.getD 0 0) l j (by omega)
/-- What a loop that counts has counted. -/
theorem rowOf_eq {l : List UInt8} {i n : Nat} (hn : n ≤ 128) (hi : i + n ≤ l.length) (h : ∀ j, j < n → l.getD (i + j) 0 = l.getD i 0) (he : n = 128 ∨ i + n = l.length ∨ l.getD (i + n) 0 ≠ l.getD i 0) : rowOf (l.drop i) = n := by
  unfold rowOf
  have h0 : (l.drop i).getD 0 0 = l.getD i 0 := by rw [drop_getD]; rfl
  rw [h0]
  have hp : ∀ j, j < n → (fun x => x == l.getD i 0) ((l.drop i).getD j 0) = true := fun j hj => by rw [drop_getD]; simp only [beq_iff_eq]; exact h j hj
  rcases he with he | he
  · have := takeWhile_ge (fun x => x == l.getD i 0) (l.drop i) n (by rw [List.length_drop]; omega) hp
    omega
  · have := takeWhile_eq (fun x => x == l.getD i 0) (l.drop i) n (by rw [List.length_drop]; omega) hp (by
      rcases he with he | he
      · left; rw [List.length_drop]; omega
      · right; rw [drop_getD]; simpa using he)
    omega

/-- How many bytes stand ahead of the next row. -/
def litFrom (l : List UInt8) : Nat → Nat → Nat
  | 0, k => k
  | f + 1, k => if k < l.length ∧ rowOf (l.drop k) < 3 then litFrom l f (k + 1) else k
def litLen (l : List UInt8) : Nat := litFrom l 127 1
theorem litFrom_ge (l : List UInt8) : ∀ (f k : Nat), k ≤ litFrom l f k ∧ litFrom l f k ≤ k + f := by
  intro f
  induction f with
  | zero => intro k; simp [litFrom]
  | succ f ih =>
    intro k
    unfold litFrom
    split
    · have := ih (k + 1); omega
    · omega
theorem litFrom_le (l : List UInt8) : ∀ (f k : Nat), k ≤ l.length → litFrom l f k ≤ l.length := by
  intro f
  induction f with
  | zero => intro k h; simpa [litFrom] using h
  | succ f ih =>
    intro k h
    unfold litFrom
    split
    · exact ih (k + 1) (by omega)
    · exact h
theorem litLen_pos (l : List UInt8) : 1 ≤ litLen l := (litFrom_ge l 127 1).1
theorem litLen_le128 (l : List UInt8) : litLen l ≤ 128 := (litFrom_ge l 127 1).2
theorem litLen_le {l : List UInt8} (h : 0 < l.length) : litLen l ≤ l.length := litFrom_le l 127 1 h
theorem lit_next {l : List UInt8} {k : Nat} (hk : k < 128) (h1 : k < l.length) (h2 : rowOf (l.drop k) < 3) : litFrom l (128 - k) k = litFrom l (128 - (k + 1)) (k + 1) := by
  obtain ⟨f, hf⟩ : ∃ f, 128 - k = f + 1 := ⟨127 - k, by omega⟩
  rw [hf, show 128 - (k + 1) = f by omega, litFrom, if_pos ⟨h1, h2⟩]
theorem lit_stop {l : List UInt8} {k : Nat} (hk : k ≤ 128) (h : k = 128 ∨ l.length ≤ k ∨ 3 ≤ rowOf (l.drop k)) : litFrom l (128 - k) k = k := by
  by_cases hk2 : k = 128
  · subst hk2; rfl
  · obtain ⟨f, hf⟩ : ∃ f, 128 - k = f + 1 := ⟨127 - k, by omega⟩
    rw [hf, litFrom, if_neg (by omega)]

/-- What is written. -/
def encode (l : List UInt8) : List UInt8 :=
  if _h : l = [] then [128]
  else if 3 ≤ rowOf l then UInt8.ofNat (257 - rowOf l) :: l.getD 0 0 :: encode (l.drop (rowOf l))
  else UInt8.ofNat (litLen l - 1) :: (l.take (litLen l) ++ encode (l.drop (litLen l)))
termination_by l.length
decreasing_by
  · have : 0 < l.length := List.length_pos_iff.mpr _h
    rw [List.length_drop]; omega
  · have : 0 < l.length := List.length_pos_iff.mpr _h
    have := litLen_pos l
    rw [List.length_drop]; omega
theorem encode_nil : encode [] = [128] := by rw [encode]; simp
theorem encode_row {l : List UInt8} (h : l ≠ []) (h3 : 3 ≤ rowOf l) : encode l = UInt8.ofNat (257 - rowOf l) :: l.getD 0 0 :: encode (l.drop (rowOf l)) := by rw [encode, dif_neg h, if_pos h3]
theorem encode_lit {l : List UInt8} (h : l ≠ []) (h3 : rowOf l < 3) : encode l = UInt8.ofNat (litLen l - 1) :: (l.take (litLen l) ++ encode (l.drop (litLen l))) := by rw [encode, dif_neg h, if_neg (by omega)]

/-- What is read: the bytes, or an error's number. -/
def room (most : Int) (out : List UInt8) : Nat := (most - out.length).toNat
def dec (most : Int) (l out : List UInt8) : List UInt8 × Int :=
  match l with
  | [] => ([], 2)
  | n :: r =>
    if n.toNat = 128 then (out, 0)
    else if 128 < n.toNat then
      match r with
      | [] => ([], 2)
      | c :: r' => if 257 - n.toNat ≤ room most out then dec most r' (out ++ List.replicate (257 - n.toNat) c) else ([], 7)
    else if r.length < n.toNat + 1 ∧ r.length ≤ room most out then ([], 2)
    else if room most out < n.toNat + 1 then ([], 7)
    else dec most (r.drop (n.toNat + 1)) (out ++ r.take (n.toNat + 1))
termination_by l.length
decreasing_by
  · simp; omega
  · simp; omega
theorem dec_nil (most : Int) (out : List UInt8) : dec most [] out = ([], 2) := by rw [dec]
theorem dec_end {most : Int} {n : UInt8} {r out : List UInt8} (h : n.toNat = 128) : dec most (n :: r) out = (out, 0) := by rw [dec.eq_def]; simp [h]
theorem dec_row_short {most : Int} {n : UInt8} {out : List UInt8} (h : 128 < n.toNat) : dec most [n] out = ([], 2) := by rw [dec.eq_def]; simp [show ¬ n.toNat = 128 by omega, h]
theorem dec_row {most : Int} {n c : UInt8} {r out : List UInt8} (h : 128 < n.toNat) (hr : 257 - n.toNat ≤ room most out) : dec most (n :: c :: r) out = dec most r (out ++ List.replicate (257 - n.toNat) c) := by
  rw [dec.eq_def]; simp only [show ¬ n.toNat = 128 by omega, h, if_true, if_false, hr]
theorem dec_row_limit {most : Int} {n c : UInt8} {r out : List UInt8} (h : 128 < n.toNat) (hr : room most out < 257 - n.toNat) : dec most (n :: c :: r) out = ([], 7) := by
  rw [dec.eq_def]; simp only [show ¬ n.toNat = 128 by omega, h, if_true, if_false, show ¬ 257 - n.toNat ≤ room most out by omega]
theorem dec_lit_short {most : Int} {n : UInt8} {r out : List UInt8} (h : n.toNat < 128) (h1 : r.length < n.toNat + 1) (h2 : r.length ≤ room most out) : dec most (n :: r) out = ([], 2) := by
  rw [dec.eq_def]; simp only [show ¬ n.toNat = 128 by omega, show ¬ 128 < n.toNat by omega, if_false, h1, h2, and_self, if_true]
theorem dec_lit_limit {most : Int} {n : UInt8} {r out : List UInt8} (h : n.toNat < 128) (h1 : room most out < r.length) (h2 : room most out < n.toNat + 1) : dec most (n :: r) out = ([], 7) := by
  rw [dec.eq_def]; simp only [show ¬ n.toNat = 128 by omega, show ¬ 128 < n.toNat by omega, if_false, show ¬ (r.length < n.toNat + 1 ∧ r.length ≤ room most out) by omega, h2, if_true]
theorem dec_lit {most : Int} {n : UInt8} {r out : List UInt8} (h : n.toNat < 128) (h1 : n.toNat + 1 ≤ r.length) (h2 : n.toNat + 1 ≤ room most out) : dec most (n :: r) out = dec most (r.drop (n.toNat + 1)) (out ++ r.take (n.toNat + 1)) := by
  rw [dec.eq_def]; simp only [show ¬ n.toNat = 128 by omega, show ¬ 128 < n.toNat by omega, if_false, show ¬ (r.length < n.toNat + 1 ∧ r.length ≤ room most out) by omega, show ¬ room most out < n.toNat + 1 by omega]


theorem dec_congr {m1 m2 : Int} (h : ∀ out, room m1 out = room m2 out) : ∀ (n : Nat) (l out : List UInt8), l.length ≤ n → dec m1 l out = dec m2 l out := by
  intro n
  induction n with
  | zero =>
    intro l out hl
    have : l = [] := List.eq_nil_of_length_eq_zero (by omega)
    subst this
    rw [dec_nil, dec_nil]
  | succ n ih =>
    intro l out hl
    cases l with
    | nil => rw [dec_nil, dec_nil]
    | cons c r =>
      simp only [List.length_cons] at hl
      rw [dec.eq_def, dec.eq_def m2]
      simp only [h]
      split
      · rfl
      · split
        · cases r with
          | nil => rfl
          | cons d r =>
            simp only [List.length_cons] at hl
            simp only
            split
            · exact ih _ _ (by omega)
            · rfl
        · split
          · rfl
          · split
            · rfl
            · exact ih _ _ (by rw [List.length_drop]; omega)
theorem dec_max (most : Int) (l out : List UInt8) : dec (if 0 > most then 0 else most) l out = dec most l out :=
  dec_congr (fun out => by unfold room; split <;> omega) l.length l out (Nat.le_refl _)


theorem dec_bound (most : Int) : ∀ (n : Nat) (l out : List UInt8), l.length ≤ n → (dec most l out).1.length ≤ out.length + 128 * l.length := by
  intro n
  induction n with
  | zero =>
    intro l out hl
    have : l = [] := List.eq_nil_of_length_eq_zero (by omega)
    subst this
    rw [dec_nil]; simp
  | succ n ih =>
    intro l out hl
    cases l with
    | nil => rw [dec_nil]; simp
    | cons c r =>
      simp only [List.length_cons] at hl ⊢
      rw [dec.eq_def]
      simp only
      split
      · simp only; omega
      · split
        · cases r with
          | nil => simp
          | cons d r =>
            simp only [List.length_cons] at hl ⊢
            split
            · have := ih r (out ++ List.replicate (257 - c.toNat) d) (by omega)
              rw [List.length_append, List.length_replicate] at this
              omega
            · simp
        · split
          · simp
          · split
            · simp
            · have := ih (r.drop (c.toNat + 1)) (out ++ r.take (c.toNat + 1)) (by rw [List.length_drop]; omega)
              rw [List.length_append, List.length_take, List.length_drop] at this
              omega
theorem dec_len (l : List UInt8) (most : Int) (h : l.length ≤ 1000) : (dec most l []).1.length ≤ 4294967296 := by
  have := dec_bound most l.length l [] (Nat.le_refl _)
  simp only [List.length_nil] at this
  omega
theorem encode_bound : ∀ (n : Nat) (l : List UInt8), l.length ≤ n → (encode l).length ≤ 2 * l.length + 1 := by
  intro n
  induction n with
  | zero =>
    intro l hl
    have : l = [] := List.eq_nil_of_length_eq_zero (by omega)
    subst this
    rw [encode_nil]; simp
  | succ n ih =>
    intro l hl
    by_cases h : l = []
    · subst h; rw [encode_nil]; simp
    · have hp : 0 < l.length := List.length_pos_iff.mpr h
      by_cases h3 : 3 ≤ rowOf l
      · rw [encode_row h h3]
        have := ih (l.drop (rowOf l)) (by rw [List.length_drop]; omega)
        have h2 := rowOf_le l
        rw [List.length_drop] at this
        simp only [List.length_cons]; omega
      · rw [encode_lit h (by omega)]
        have h1 := litLen_pos l
        have h2 := litLen_le hp
        have := ih (l.drop (litLen l)) (by rw [List.length_drop]; omega)
        rw [List.length_drop] at this
        simp only [List.length_cons, List.length_append, List.length_take]; omega
theorem encode_len (l : List UInt8) (h : l.length ≤ 1000) : (encode l).length ≤ 4294967296 := by
  have := encode_bound l.length l (Nat.le_refl _); omega

end Go.Cl.Runs
