/-
 The clean machine: a slice that may be cut at its end and appended to: the beginning of a block of one's own.
-/
import Derived.Test.YthlbahnfimigcaaAgg
namespace Go.Cl
inductive Pre (s : ASt) (z : Nat) : Value -> Nat -> List Value -> Prop
 | nil : Pre s z (.slice none 0 0) 0 []
 | of (i n c low : Nat) (cs l : List Value) (hi : i < s.next) (hb : s.blk? i = some ⟨cs, low, true, z⟩) (hl : low ≤ c) (hc : c = cs.length + 1) (hlen : l.length = n * z) (hn : n * z ≤ cs.length) (ht : cs.take (n * z) = l) : Pre s z (.slice (some ⟨i, 0, none⟩) n c) n l
theorem Own.pre {s : ASt} {z : Nat} {v : Value} {n : Nat} {l : List Value} (h : Own s z v n l) : Pre s z v n l := by
 cases h with
 | nil => exact .nil
 | of i n low l hi hb hl hlen => exact .of i n _ low l l hi hb hl rfl hlen (by omega) (by rw [← hlen, List.take_length])
theorem Pre.sees {s : ASt} {z : Nat} {v : Value} {n : Nat} {l : List Value} (h : Pre s z v n l) : Sees s z v n l := by
 cases h with
 | nil => exact .nil
 | of i n c low cs l hi hb hl hc hlen hn ht => exact .of i 0 n c _ l hi hb rfl hl (by simp [hc]) hlen (by omega) (by simpa using ht)
theorem Pre.keeps {s s' : ASt} {z : Nat} {v : Value} {n : Nat} {l : List Value} (h : Pre s z v n l) (k : Stay s.next s s') : Pre s' z v n l := by
 cases h with
 | nil => exact .nil
 | of i n c low cs l hi hb hl hc hlen hn ht => exact .of i n c low cs l (Nat.lt_of_lt_of_le hi k.next) ((k.blk hi).trans hb) hl hc hlen hn ht
theorem Pre.turns {s s' : ASt} {z : Nat} {v u : Value} {n : Nat} {l : List Value} (h : Pre s z v n l) (k : Turns u s s') (hne : ∀ i, idOf v = some i -> idOf u ≠ some i) : Pre s' z v n l := by
 cases h with
 | nil => exact .nil
 | of i n c low cs l hi hb hl hc hlen hn ht =>
  refine .of i n c low cs l (Nat.lt_of_lt_of_le hi k.next) ?_ hl hc hlen hn ht
  simp only [ASt.blk?, k.get i hi (hne i rfl)]; exact hb
theorem Pre.idlt {s : ASt} {z : Nat} {v : Value} {n : Nat} {l : List Value} (h : Pre s z v n l) : ∀ i, idOf v = some i -> i < s.next := by
 cases h with
 | nil => intro i h; cases h
 | of i n c low cs l hi => intro j h; injection h with h; subst h; exact hi
theorem Pre.cutHigh {P : Program} {t e : TypeId} {z : Nat} (hu : P.underlying t = some (.slice e)) (hsz : sizeB P e = some z) {s : ASt} {v : Value} {n : Nat} {l : List Value} (h : Pre s z v n l) {k : Nat} {kk : IntKind} (hk : k ≤ n) :
  ∃ v', sliceA P s t v none (some (.int kk (k : Nat))) none = some v' ∧ Pre s z v' k (l.take (k * z)) ∧ idOf v' = idOf v := by
 have h1 := h.sees.sliceHigh hu hsz (k := kk) (y := (k : Int)) (by omega) (by omega)
 rw [Int.toNat_natCast] at h1
 refine ⟨_, h1, ?_⟩
 cases h with
 | nil =>
  obtain rfl : k = 0 := by omega
  rw [List.take_nil]
  exact ⟨.nil, rfl⟩
 | of i n c low cs l hi hb hl hc hlen hn ht =>
  refine ⟨?_, rfl⟩
  have hkz : k * z ≤ n * z := Nat.mul_le_mul_right _ hk
  have : cutS z (.slice (some ⟨i, 0, none⟩) n c) 0 k = .slice (some ⟨i, 0, none⟩) k c := by
   unfold cutS; simp
  rw [this]
  exact .of i k c low cs _ hi hb hl hc (by rw [List.length_take]; omega) (by omega) (by rw [← ht, List.take_take, Nat.min_eq_left hkz])
theorem Pre.append {P : Program} {st xt e : TypeId} {xd : TypeDesc} {z by8 : Nat} {zv : Value} (hu : P.underlying st = some (.slice e)) (hux : P.underlying xt = some xd) (hxd : (∃ e2, xd = .slice e2) ∨ xd = .string) (hsz : sizeB P e = some z) (hby : bytesB P e = some by8) (hzv : zeroB P e = some zv) (hzl : Nat.beq zv.cells.toList.length z = true)
  {s : ASt} {x y : Value} {n m : Nat} {l new : List Value} (hx : Pre s z x n l) (hy : srcCells s z y = some (m, new)) (hnew : new.length = m * z) (hz0 : 0 < z) (hok : new.all okCell = true) (hb1 : (n + m) * by8 ≤ 140737488355328) (hb2 : n + m ≤ 140737488355328) :
  ∃ x' s', appendA P s st xt x y = some (x', s') ∧ Pre s' z x' (n + m) (l ++ new) ∧ Turns x s s' ∧ (idOf x' = idOf x ∨ ∃ i, idOf x' = some i ∧ s.next ≤ i) := by
 have hy0 := hy
 have hy : srcA s z by8 zv xd y = some (m, new) := by rcases hxd with ⟨e2, rfl⟩ | rfl <;> exact hy
 have hcond : (Nat.ble ((n + m) * by8) 140737488355328 && Nat.ble (n + m) 140737488355328 && Nat.blt 0 z && new.all okCell && Nat.beq zv.cells.toList.length z) = true := by
  simp only [Bool.and_eq_true, Nat.ble_eq, Nat.blt_eq]; exact ⟨⟨⟨⟨hb1, hb2⟩, hz0⟩, hok⟩, hzl⟩
 cases m with
 | zero =>
  have hn : new = [] := List.eq_nil_of_length_eq_zero (by simpa using hnew)
  subst hn
  refine ⟨x, s, ?_, by simpa using hx, ⟨Nat.le_refl _, fun _ _ _ => rfl⟩, .inl rfl⟩
  unfold appendA
  rcases hxd with ⟨e2, rfl⟩ | rfl <;>
  simp only [hu, hux, hsz, hby, hzv, hy]
  all_goals (cases hx <;> simp only [hcond, if_true])
 | succ m =>
  cases hx with
  | nil =>
   obtain ⟨x', s', h1, h2, h3, h4⟩ := (Own.nil (s := s) (z := z)).append hu hux hxd hsz hby hzv hzl hy0 hnew hz0 hok hb1 hb2
   exact ⟨x', s', h1, h2.pre, h3, h4⟩
  | of i n c low cs l hi hb hl hc hlen hn ht =>
   subst hc
   by_cases hw : n * z = cs.length
   ·have e : l = cs := by rw [← ht, hw, List.take_length]
    subst e
    obtain ⟨x', s', h1, h2, h3, h4⟩ := (Own.of (z := z) i n low l hi hb hl hlen).append hu hux hxd hsz hby hzv hzl hy0 hnew hz0 hok hb1 hb2
    exact ⟨x', s', h1, h2.pre, h3, h4⟩
   ·have hc1 : (true && Nat.ble low (cs.length + 1) && Nat.beq z z) = true := by simp [hl]
    have hc2 : (Nat.beq (cs.length + 1) (cs.length + 1) && Nat.beq 0 0 && Nat.beq (n * z) cs.length) = false := by
     rw [show Nat.beq (n * z) cs.length = false from by rw [← Bool.not_eq_true, Nat.beq_eq]; exact hw, Bool.and_false]
    have hat : s.cellsAt i 0 (cs.length + 1) (n * z) = some l := by
     rw [cellsAt_eq hb hl (Nat.le_refl _) (by omega), List.drop_zero, ht]
    have hlz : (l ++ new).length = (n + (m + 1)) * z := by rw [List.length_append, hlen, hnew, Nat.add_mul n (m + 1) z]
    obtain ⟨g1, g2⟩ := Own.new (s := s.put i (.blk (kill ⟨cs, low, true, z⟩))) hlz
    have hpn : (s.put i (.blk (kill ⟨cs, low, true, z⟩))).next = s.next := rfl
    refine ⟨_, _, ?_, g2.pre, ⟨by rw [next_new, hpn]; omega, fun j hj hne => ?_⟩, .inr ⟨s.next, rfl, Nat.le_refl _⟩⟩
    ·unfold appendA
     rcases hxd with ⟨e2, rfl⟩ | rfl <;>
     simp only [hu, hux, hsz, hby, hzv, hy, hcond, if_true, hb, hc1, hc2, hat, g1] <;> rfl
    ·rw [(Stay.new _ _).get j (by rw [hpn]; exact hj), ASt.get_put_ne]
     intro e; subst e; exact hne rfl
section
variable {P : Program} {lib : Prims} {all r : List Oper} {f : AFr} {s : ASt} {d : Option Tmp} {Q : AFr -> ASt -> Prop}
theorem wstep_appendPre {st xt e : TypeId} {xd : TypeDesc} {z by8 : Nat} {zv : Value} (hu : P.underlying st = some (.slice e)) (hux : P.underlying xt = some xd) (hxd : (∃ e2, xd = .slice e2) ∨ xd = .string) (hsz : sizeB P e = some z) (hby : bytesB P e = some by8) (hzv : zeroB P e = some zv) (hzl : Nat.beq zv.cells.toList.length z = true)
  {x y : Value} {n m : Nat} {l new : List Value} (hx : Pre s z x n l) (hy : srcCells s z y = some (m, new)) (hnew : new.length = m * z) (hz0 : 0 < z) (hok : new.all okCell = true) (hb1 : (n + m) * by8 ≤ 140737488355328) (hb2 : n + m ≤ 140737488355328) {base : Nat} (hF : Fresh base x) (hB : base ≤ s.next)
  (K : ∀ x' s', Pre s' z x' (n + m) (l ++ new) -> Fresh base x' -> Stay base s s' -> Turns x s s' -> (idOf x' = idOf x ∨ ∃ i, idOf x' = some i ∧ s.next ≤ i) -> wstep P lib all r f s d Q (some (.val x' s'))) : wstep P lib all r f s d Q (pOf (appendA P s st xt x y)) := by
 obtain ⟨x', s', h1, h2, h3, h4⟩ := Pre.append hu hux hxd hsz hby hzv hzl hx hy hnew hz0 hok hb1 hb2
 rw [h1, pOf_some]
 refine K _ _ h2 (fun i hi => ?_) (h3.keeps hF hB) h3 h4
 rcases h4 with h4 | ⟨j, hj, hl⟩
 ·exact hF i (by rw [← h4]; exact hi)
 ·rw [hj] at hi; injection hi with hi; omega
end
end Go.Cl