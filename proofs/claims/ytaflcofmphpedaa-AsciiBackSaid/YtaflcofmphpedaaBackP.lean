/-
  What was written is read as it was, white signs anywhere in it: the plain laws.
-/
import Derived.Test.YtaflcofmphpedaaSigns
import Derived.Test.YtaflcofmphpedaaUnb
set_option linter.unusedSimpArgs false
set_option linter.unusedVariables false
namespace Go.Proofs.Ytaflcofmphpedaa
open Go.Cl Go.Cl.Uh Go.Cl.Hx Go.Cl.B85
def nw (c : UInt8) : Bool := !white c.toNat
theorem unh_white (M : Int) : ∀ (l : List UInt8) (h : Int) (P : List UInt8), unh M (l.filter nw) h P = unh M l h P := by
  intro l
  induction l with
  | nil => intro h P; rfl
  | cons c l ih =>
    intro h P
    by_cases hw : white c.toNat = true
    · rw [List.filter_cons_of_neg (by simp [nw, hw]), ih, unh, if_pos hw]
    · rw [List.filter_cons_of_pos (by simp [nw, hw]), unh, unh, if_neg hw, if_neg hw]
      simp only [ih]
theorem sign_white : ∀ l : List UInt8, (sign (l.filter nw)).1 = (sign l).1 := by
  intro l
  induction l with
  | nil => rfl
  | cons c l ih =>
    by_cases hw : white c.toNat = true
    · rw [List.filter_cons_of_neg (by simp [nw, hw]), ih, sign, if_pos hw]
    · rw [List.filter_cons_of_pos (by simp [nw, hw]), sign, sign, if_neg hw, if_neg hw]
theorem unb_white (M : Int) : ∀ (l : List UInt8) (g : List Nat) (P : List UInt8), unb M (l.filter nw) g P = unb M l g P := by
  intro l
  induction l with
  | nil => intro g P; rfl
  | cons c l ih =>
    intro g P
    by_cases hw : white c.toNat = true
    · rw [List.filter_cons_of_neg (by simp [nw, hw]), ih, unb, if_pos hw]
    · rw [List.filter_cons_of_pos (by simp [nw, hw]), unb, unb, if_neg hw, if_neg hw]
      simp only [ih, ende, sign_white]
/-- A white sign put in. -/
theorem filter_put (l : List UInt8) (k : Nat) (c : UInt8) (h : nw c = false) : ((l.take k ++ [c]) ++ l.drop k).filter nw = l.filter nw := by
  rw [List.filter_append, List.filter_append, List.filter_cons_of_neg (by simp [h]), List.filter_nil, List.append_nil, ← List.filter_append, List.take_append_drop]
theorem digit_of : ∀ k, k < 16 → white ((digits.getD k 0).toNat : Int) = false ∧ ((digits.getD k 0).toNat : Int) ≠ 62 ∧ digit ((digits.getD k 0).toNat : Int) = (k : Int) := by decide
theorem unh_back (M : Int) (rest : List UInt8) : ∀ (l P : List UInt8), ((P.length : Nat) : Int) ≤ M → unh M (hexs l ++ 62 :: rest) (-1) P = if (l.length : Int) ≤ M - P.length then (P ++ l, 0) else ([], 7)
  | [], P, h => by
    rw [if_pos (by simp; omega)]
    simp [hexs, unh, show white 62 = false by decide]
  | c :: l, P, h => by
    have hc8 := c.toNat_lt
    obtain ⟨a1, a2, a3⟩ := digit_of (c.toNat / 16) (by omega)
    obtain ⟨b1, b2, b3⟩ := digit_of (c.toNat % 16) (by omega)
    have e : hexs (c :: l) ++ 62 :: rest = digits.getD (c.toNat / 16) 0 :: digits.getD (c.toNat % 16) 0 :: (hexs l ++ 62 :: rest) := by simp [hexs, two]
    have hb : byteN (c.toNat / 16 * 16 + c.toNat % 16) = c := by
      apply UInt8.toNat_inj.mp
      unfold byteN; rw [UInt8.toNat_ofNat']; omega
    simp only [List.length_cons]
    rw [e, unh, a1, if_neg (by decide), if_neg a2, a3, if_neg (by omega), if_pos (by decide), unh, b1, if_neg (by decide), if_neg b2, b3, if_neg (by omega), if_neg (by omega), Int.toNat_natCast, Int.toNat_natCast, hb]
    by_cases hf : M - (P.length : Int) < 1
    · rw [if_pos hf, if_neg (by omega)]
    · rw [if_neg hf, unh_back M rest l (P ++ [c]) (by simp; omega)]
      have e2 : ((P ++ [c]).length : Int) = P.length + 1 := by simp
      rw [e2]
      by_cases hl : (l.length : Int) ≤ M - (P.length + 1)
      · rw [if_pos hl, if_pos (by omega)]; simp
      · rw [if_neg hl, if_neg (by omega)]
theorem white_sign {n : Nat} (h : 33 ≤ n) : white (n : Int) = false := by
  unfold white; rw [decide_eq_false_iff_not]; omega
/-- A digit's sign. -/
def sg (d : Nat) : UInt8 := UInt8.ofNat (33 + d)
theorem sg_val {d : Nat} (h : d < 85) : (sg d).toNat = 33 + d := by unfold sg; rw [UInt8.toNat_ofNat']; omega
theorem unb_dig (M : Int) (r : List UInt8) (g : List Nat) (P : List UInt8) {d : Nat} (hd : d < 85) : unb M (sg d :: r) g P = if g.length = 4 then (if (fiv M (g ++ [d]) 4 P).2 = 0 then unb M r [] (fiv M (g ++ [d]) 4 P).1 else ([], (fiv M (g ++ [d]) 4 P).2)) else unb M r (g ++ [d]) P := by
  have e := sg_val hd
  rw [unb, e, white_sign (by omega), if_neg (by decide), if_neg (by omega), if_neg (by omega), if_neg (by omega), Nat.add_sub_cancel_left]
theorem unb_tilde (M : Int) (r : List UInt8) (g : List Nat) (P : List UInt8) : unb M (126 :: r) g P = ende M r g P := by
  rw [unb, if_neg (by decide), if_pos (by decide)]
theorem unb_z (M : Int) (r : List UInt8) (P : List UInt8) : unb M (122 :: r) [] P = if M - P.length < 4 then ([], 7) else unb M r [] (P ++ [0, 0, 0, 0]) := by
  rw [unb, if_neg (by decide), if_neg (by decide), if_pos ⟨by decide, rfl⟩]
theorem ende_last (M : Int) (r : List UInt8) (g : List Nat) (P : List UInt8) (h : 1 < g.length) : ende M (62 :: r) g P = if (fiv M g (g.length - 1) P).2 = 0 then ((fiv M g (g.length - 1) P).1, 0) else ([], (fiv M g (g.length - 1) P).2) := by
  have hs : (sign (62 :: r)).1 = 62 := by simp only [sign]; rw [if_neg (by decide)]; rfl
  unfold ende
  by_cases hb : (fiv M g (g.length - 1) P).2 = 0
  · rw [if_neg (by omega), if_neg (by simp [hb]), hs, if_neg (by decide), if_pos rfl, if_pos h, if_pos hb]
  · rw [if_neg (by omega), if_pos ⟨h, hb⟩, if_neg hb]
theorem dig_sg (x k : Nat) : dig x k = sg (x / 85 ^ (4 - k) % 85) := rfl
theorem five_sg (x : Nat) : five x = [sg (x / 52200625 % 85), sg (x / 614125 % 85), sg (x / 7225 % 85), sg (x / 85 % 85), sg (x % 85)] := by
  simp [five, dig_sg]
/-- Five digits as a number. -/
theorem num5 (a b c d e : Nat) : numTo [a, b, c, d, e] 5 = (((a * 85 + b) * 85 + c) * 85 + d) * 85 + e := by simp [numTo]
theorem num4 (a b c d : Nat) : numTo [a, b, c, d] 5 = (((a * 85 + b) * 85 + c) * 85 + d) * 85 + 84 := by simp [numTo]
theorem num3 (a b c : Nat) : numTo [a, b, c] 5 = (((a * 85 + b) * 85 + c) * 85 + 84) * 85 + 84 := by simp [numTo]
theorem num2 (a b : Nat) : numTo [a, b] 5 = (((a * 85 + b) * 85 + 84) * 85 + 84) * 85 + 84 := by simp [numTo]
theorem digs (x : Nat) (h : x < 4294967296) : ∃ q1 q2 q3 q4, x / 85 = q1 ∧ x / 7225 = q2 ∧ x / 614125 = q3 ∧ x / 52200625 = q4 ∧ x = q1 * 85 + x % 85 ∧ q1 = q2 * 85 + x / 85 % 85 ∧ q2 = q3 * 85 + x / 7225 % 85 ∧ q3 = q4 * 85 + x / 614125 % 85 ∧ q4 = x / 52200625 % 85 := by
  refine ⟨x / 85, x / 7225, x / 614125, x / 52200625, rfl, rfl, rfl, rfl, by omega, ?_, ?_, ?_, by omega⟩
  · have : x / 7225 = x / 85 / 85 := by rw [Nat.div_div_eq_div_mul]
    omega
  · have : x / 614125 = x / 7225 / 85 := by rw [Nat.div_div_eq_div_mul]
    omega
  · have : x / 52200625 = x / 614125 / 85 := by rw [Nat.div_div_eq_div_mul]
    omega
/-- A group that is not full, or is: where its bytes come back. -/
theorem fiv_back (M : Int) (g : List Nat) (n : Nat) (P l : List UInt8) (h1 : numTo g 5 ≤ 4294967295) (h2 : (bytes4 (numTo g 5)).take n = l) (h3 : l.length = n) : fiv M g n P = if (l.length : Int) ≤ M - P.length then (P ++ l, 0) else (P, 7) := by
  unfold fiv
  rw [if_neg (by omega), h2, h3]
  by_cases hf : (n : Int) ≤ M - P.length
  · rw [if_neg (by omega), if_pos hf]
  · rw [if_pos (by omega), if_neg hf]
theorem byte_of {n : Nat} {a : UInt8} (h : n % 256 = a.toNat) : UInt8.ofNat n = a := by
  apply UInt8.toNat_inj.mp; rw [UInt8.toNat_ofNat']; exact h
theorem top1 {x N a : Nat} (ha : a < 256) (h : x = a * 16777216) (h1 : x ≤ N) (h2 : N ≤ x + 614124) : N ≤ 4294967295 ∧ N / 16777216 % 256 = a := by omega
theorem top2 {x N a b : Nat} (ha : a < 256) (hb : b < 256) (h : x = a * 16777216 + b * 65536) (h1 : x ≤ N) (h2 : N ≤ x + 7224) : N ≤ 4294967295 ∧ N / 16777216 % 256 = a ∧ N / 65536 % 256 = b := by omega
theorem top3 {x N a b c : Nat} (ha : a < 256) (hb : b < 256) (hc : c < 256) (h : x = a * 16777216 + b * 65536 + c * 256) (h1 : x ≤ N) (h2 : N ≤ x + 84) : N ≤ 4294967295 ∧ N / 16777216 % 256 = a ∧ N / 65536 % 256 = b ∧ N / 256 % 256 = c := by omega
theorem top4 {x a b c d : Nat} (ha : a < 256) (hb : b < 256) (hc : c < 256) (hd : d < 256) (h : x = ((a * 256 + b) * 256 + c) * 256 + d) : x ≤ 4294967295 ∧ x / 16777216 % 256 = a ∧ x / 65536 % 256 = b ∧ x / 256 % 256 = c ∧ x % 256 = d := by omega
theorem near (x : Nat) : x ≤ x / 614125 * 614125 + 614124 ∧ x / 614125 * 614125 + 614124 ≤ x + 614124 ∧ x ≤ x / 7225 * 7225 + 7224 ∧ x / 7225 * 7225 + 7224 ≤ x + 7224 ∧ x ≤ x / 85 * 85 + 84 ∧ x / 85 * 85 + 84 ≤ x + 84 := by omega
theorem val4 (a b c d : UInt8) (l : List UInt8) : val (a :: b :: c :: d :: l) 4 = ((a.toNat * 256 + b.toNat) * 256 + c.toNat) * 256 + d.toNat := by
  have : min 4 (a :: b :: c :: d :: l).length = 4 := by simp
  simp only [val, this]; simp
theorem unb_back (M : Int) (rest : List UInt8) : ∀ (n : Nat) (l P : List UInt8), l.length ≤ n → ((P.length : Nat) : Int) ≤ M → unb M (b85 l ++ rest) [] P = if (l.length : Int) ≤ M - P.length then (P ++ l, 0) else ([], 7) := by
  intro n
  induction n with
  | zero =>
    intro l P hl h
    obtain rfl : l = [] := List.eq_nil_of_length_eq_zero (by omega)
    rw [b85_nil, if_pos (by simp; omega)]
    show unb M (126 :: 62 :: rest) [] P = _
    have hs : (sign (62 :: rest)).1 = 62 := by simp only [sign]; rw [if_neg (by decide)]; rfl
    rw [unb_tilde, ende, if_neg (by decide), if_neg (by simp), hs, if_neg (by decide), if_pos rfl, if_neg (by simp), List.append_nil]
  | succ n ih =>
    intro l P hl h
    match l, hl with
    | [], _ =>
      rw [b85_nil, if_pos (by simp; omega)]
      show unb M (126 :: 62 :: rest) [] P = _
      have hs : (sign (62 :: rest)).1 = 62 := by simp only [sign]; rw [if_neg (by decide)]; rfl
      rw [unb_tilde, ende, if_neg (by decide), if_neg (by simp), hs, if_neg (by decide), if_pos rfl, if_neg (by simp), List.append_nil]
    | [a], _ =>
      obtain ⟨x, hx⟩ : ∃ x, x = val [a] 4 := ⟨_, rfl⟩
      have hv : x = a.toNat * 16777216 := by rw [hx]; simp [val]; omega
      have ha := a.toNat_lt
      obtain ⟨q1, q2, q3, q4, e01, e02, e03, e04, e1, e2, e3, e4, e5⟩ := digs x (by omega)
      rw [b85_five (by simp) (by simp), ← hx, five_sg]
      have ed : [a].drop (min 4 [a].length) = [] := by simp
      rw [ed, b85_nil]
      show unb M (sg (x / 52200625 % 85) :: sg (x / 614125 % 85) :: 126 :: 62 :: rest) [] P = _
      rw [unb_dig M _ _ _ (by omega), if_neg (by simp), unb_dig M _ _ _ (by omega), if_neg (by simp), unb_tilde, ende_last _ _ _ _ (by simp)]
      have hn : numTo [x / 52200625 % 85, x / 614125 % 85] 5 = q3 * 614125 + 614124 := by rw [num2]; omega
      obtain ⟨n1, n2, _⟩ := near x
      rw [e03] at n1 n2
      obtain ⟨t0, t1⟩ := top1 ha hv n1 n2
      show (if (fiv M [x / 52200625 % 85, x / 614125 % 85] 1 P).2 = 0 then ((fiv M [x / 52200625 % 85, x / 614125 % 85] 1 P).1, 0) else ([], (fiv M [x / 52200625 % 85, x / 614125 % 85] 1 P).2)) = _
      rw [fiv_back M _ 1 P [a] (by rw [hn]; exact t0) (by rw [hn]; show [UInt8.ofNat _] = [a]; rw [byte_of t1]) rfl]
      by_cases hf : (([a] : List UInt8).length : Int) ≤ M - P.length
      · simp only [if_pos hf, if_true]
      · simp only [if_neg hf]; rfl
    | [a, b], _ =>
      obtain ⟨x, hx⟩ : ∃ x, x = val [a, b] 4 := ⟨_, rfl⟩
      have hv : x = a.toNat * 16777216 + b.toNat * 65536 := by rw [hx]; simp [val]; omega
      have ha := a.toNat_lt
      have hb := b.toNat_lt
      obtain ⟨q1, q2, q3, q4, e01, e02, e03, e04, e1, e2, e3, e4, e5⟩ := digs x (by omega)
      rw [b85_five (by simp) (by simp), ← hx, five_sg]
      have ed : [a, b].drop (min 4 [a, b].length) = [] := by simp
      rw [ed, b85_nil]
      show unb M (sg (x / 52200625 % 85) :: sg (x / 614125 % 85) :: sg (x / 7225 % 85) :: 126 :: 62 :: rest) [] P = _
      rw [unb_dig M _ _ _ (by omega), if_neg (by simp), unb_dig M _ _ _ (by omega), if_neg (by simp), unb_dig M _ _ _ (by omega), if_neg (by simp), unb_tilde, ende_last _ _ _ _ (by simp)]
      have hn : numTo [x / 52200625 % 85, x / 614125 % 85, x / 7225 % 85] 5 = q2 * 7225 + 7224 := by rw [num3]; omega
      obtain ⟨_, _, n1, n2, _⟩ := near x
      rw [e02] at n1 n2
      obtain ⟨t0, t1, t2⟩ := top2 ha hb hv n1 n2
      show (if (fiv M [x / 52200625 % 85, x / 614125 % 85, x / 7225 % 85] 2 P).2 = 0 then ((fiv M [x / 52200625 % 85, x / 614125 % 85, x / 7225 % 85] 2 P).1, 0) else ([], (fiv M [x / 52200625 % 85, x / 614125 % 85, x / 7225 % 85] 2 P).2)) = _
      rw [fiv_back M _ 2 P [a, b] (by rw [hn]; exact t0) (by rw [hn]; show [UInt8.ofNat _, UInt8.ofNat _] = [a, b]; rw [byte_of t1, byte_of t2]) rfl]
      by_cases hf : (([a, b] : List UInt8).length : Int) ≤ M - P.length
      · simp only [if_pos hf, if_true]
      · simp only [if_neg hf]; rfl
    | [a, b, c], _ =>
      obtain ⟨x, hx⟩ : ∃ x, x = val [a, b, c] 4 := ⟨_, rfl⟩
      have hv : x = a.toNat * 16777216 + b.toNat * 65536 + c.toNat * 256 := by rw [hx]; simp [val]; omega
      have ha := a.toNat_lt
      have hb := b.toNat_lt
      have hc := c.toNat_lt
      obtain ⟨q1, q2, q3, q4, e01, e02, e03, e04, e1, e2, e3, e4, e5⟩ := digs x (by omega)
      rw [b85_five (by simp) (by simp), ← hx, five_sg]
      have ed : [a, b, c].drop (min 4 [a, b, c].length) = [] := by simp
      rw [ed, b85_nil]
      show unb M (sg (x / 52200625 % 85) :: sg (x / 614125 % 85) :: sg (x / 7225 % 85) :: sg (x / 85 % 85) :: 126 :: 62 :: rest) [] P = _
      rw [unb_dig M _ _ _ (by omega), if_neg (by simp), unb_dig M _ _ _ (by omega), if_neg (by simp), unb_dig M _ _ _ (by omega), if_neg (by simp), unb_dig M _ _ _ (by omega), if_neg (by simp), unb_tilde, ende_last _ _ _ _ (by simp)]
      have hn : numTo [x / 52200625 % 85, x / 614125 % 85, x / 7225 % 85, x / 85 % 85] 5 = q1 * 85 + 84 := by rw [num4]; omega
      obtain ⟨_, _, _, _, n1, n2⟩ := near x
      rw [e01] at n1 n2
      obtain ⟨t0, t1, t2, t3⟩ := top3 ha hb hc hv n1 n2
      show (if (fiv M [x / 52200625 % 85, x / 614125 % 85, x / 7225 % 85, x / 85 % 85] 3 P).2 = 0 then ((fiv M [x / 52200625 % 85, x / 614125 % 85, x / 7225 % 85, x / 85 % 85] 3 P).1, 0) else ([], (fiv M [x / 52200625 % 85, x / 614125 % 85, x / 7225 % 85, x / 85 % 85] 3 P).2)) = _
      rw [fiv_back M _ 3 P [a, b, c] (by rw [hn]; exact t0) (by rw [hn]; show [UInt8.ofNat _, UInt8.ofNat _, UInt8.ofNat _] = [a, b, c]; rw [byte_of t1, byte_of t2, byte_of t3]) rfl]
      by_cases hf : (([a, b, c] : List UInt8).length : Int) ≤ M - P.length
      · simp only [if_pos hf, if_true]
      · simp only [if_neg hf]; rfl
    | a :: b :: c :: d :: l, hl =>
      have hmin : min 4 (a :: b :: c :: d :: l).length = 4 := by simp
      obtain ⟨x, hx⟩ : ∃ x, x = val (a :: b :: c :: d :: l) 4 := ⟨_, rfl⟩
      have hv := val4 a b c d l
      rw [← hx] at hv
      have ha := a.toNat_lt
      have hb := b.toNat_lt
      have hc := c.toNat_lt
      have hd := d.toNat_lt
      have hll : ((a :: b :: c :: d :: l).length : Int) = l.length + 4 := by have : (a :: b :: c :: d :: l).length = l.length + 4 := rfl; omega
      have ih' := fun (Q : List UInt8) (hQ : Q.length = 4) (hM : ¬ M - (P.length : Int) < 4) => ih l (P ++ Q) (by simp at hl; omega) (by rw [List.length_append]; omega)
      by_cases hz : x = 0
      · have ea : a = 0 := UInt8.toNat_inj.mp (by show _ = 0; omega)
        have eb : b = 0 := UInt8.toNat_inj.mp (by show _ = 0; omega)
        have ec : c = 0 := UInt8.toNat_inj.mp (by show _ = 0; omega)
        have ed : d = 0 := UInt8.toNat_inj.mp (by show _ = 0; omega)
        rw [b85_z (by simp) ⟨hmin, by rw [← hx]; exact hz⟩, hmin]
        show unb M (122 :: (b85 l ++ rest)) [] P = _
        rw [unb_z, hll]
        by_cases hf : M - (P.length : Int) < 4
        · rw [if_pos hf, if_neg (by omega)]
        · rw [if_neg hf, ih' _ rfl hf, List.length_append]
          subst ea eb ec ed
          have e4 : ((P.length + ([0, 0, 0, 0] : List UInt8).length : Nat) : Int) = P.length + 4 := by simp
          rw [e4]
          by_cases hl2 : (l.length : Int) ≤ M - (P.length + 4)
          · rw [if_pos hl2, if_pos (by omega)]; simp
          · rw [if_neg hl2, if_neg (by omega)]
      · obtain ⟨q1, q2, q3, q4, e01, e02, e03, e04, e1, e2, e3, e4, e5⟩ := digs x (by omega)
        rw [b85_five (by simp) (by rw [← hx]; exact fun e => hz e.2), ← hx, five_sg, hmin]
        show unb M (sg (x / 52200625 % 85) :: sg (x / 614125 % 85) :: sg (x / 7225 % 85) :: sg (x / 85 % 85) :: sg (x % 85) :: (b85 l ++ rest)) [] P = _
        rw [unb_dig M _ _ _ (by omega), if_neg (by simp), unb_dig M _ _ _ (by omega), if_neg (by simp), unb_dig M _ _ _ (by omega), if_neg (by simp), unb_dig M _ _ _ (by omega), if_neg (by simp), unb_dig M _ _ _ (by omega), if_pos (by simp)]
        have hn : numTo [x / 52200625 % 85, x / 614125 % 85, x / 7225 % 85, x / 85 % 85, x % 85] 5 = x := by rw [num5]; omega
        obtain ⟨t0, t1, t2, t3, t4⟩ := top4 ha hb hc hd hv
        have hfv := fiv_back M [x / 52200625 % 85, x / 614125 % 85, x / 7225 % 85, x / 85 % 85, x % 85] 4 P [a, b, c, d] (by rw [hn]; exact t0) (by rw [hn]; show [UInt8.ofNat _, UInt8.ofNat _, UInt8.ofNat _, UInt8.ofNat _] = [a, b, c, d]; rw [byte_of t1, byte_of t2, byte_of t3, byte_of t4]) rfl
        show (if (fiv M [x / 52200625 % 85, x / 614125 % 85, x / 7225 % 85, x / 85 % 85, x % 85] 4 P).2 = 0 then unb M (b85 l ++ rest) [] (fiv M [x / 52200625 % 85, x / 614125 % 85, x / 7225 % 85, x / 85 % 85, x % 85] 4 P).1 else ([], (fiv M [x / 52200625 % 85, x / 614125 % 85, x / 7225 % 85, x / 85 % 85, x % 85] 4 P).2)) = _
        rw [hfv, hll]
        have e4 : ((([a, b, c, d] : List UInt8).length : Nat) : Int) = 4 := rfl
        rw [e4]
        by_cases hf : (4 : Int) ≤ M - (P.length : Int)
        · simp only [if_pos hf, if_true]
          rw [ih' _ rfl (by omega), List.length_append]
          have e5 : ((P.length + ([a, b, c, d] : List UInt8).length : Nat) : Int) = P.length + 4 := by simp
          rw [e5]
          by_cases hl2 : (l.length : Int) ≤ M - (P.length + 4)
          · rw [if_pos hl2, if_pos (by omega)]; simp
          · rw [if_neg hl2, if_neg (by omega)]
        · simp only [if_neg hf]
          rw [if_neg (by decide), if_neg (by omega)]
end Go.Proofs.Ytaflcofmphpedaa
