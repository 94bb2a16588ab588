/-
  The clean machine: append, and what the slice that was appended to still reads.
-/
import Derived.Test.YtoddiggebjbnnaaRul
namespace Go.Cl
/-- append, to what is one's own: what there was is read as it was. -/
theorem Own.append2 {P : Program} {st xt e : TypeId} {xd : TypeDesc} {z by8 : Nat} {zv : Value} (hu : P.underlying st = some (.slice e)) (hux : P.underlying xt = some xd) (hxd : (∃ e2, xd = .slice e2) ∨ xd = .string) (hsz : sizeB P e = some z) (hby : bytesB P e = some by8) (hzv : zeroB P e = some zv) (hzl : Nat.beq zv.cells.toList.length z = true)
    {s : ASt} {x y : Value} {n m : Nat} {l new : List Value} (hx : Own s z x n l) (hy : srcCells s z y = some (m, new)) (hnew : new.length = m * z) (hz0 : 0 < z) (hok : new.all okCell = true) (hb1 : (n + m) * by8 ≤ 4294967296) (hb2 : n + m ≤ 4294967296) :
    ∃ x' s', appendA P s st xt x y = some (x', s') ∧ Own s' z x' (n + m) (l ++ new) ∧ Turns x s s' ∧ (idOf x' = idOf x ∨ ∃ i, idOf x' = some i ∧ s.next ≤ i) ∧ Sees s' z x n l := by
  have hy : srcA s z by8 zv xd y = some (m, new) := by rcases hxd with ⟨e2, rfl⟩ | rfl <;> exact hy
  have hcond : (Nat.ble ((n + m) * by8) 4294967296 && Nat.ble (n + m) 4294967296 && Nat.blt 0 z && new.all okCell && Nat.beq zv.cells.toList.length z) = true := by
    simp only [Bool.and_eq_true, Nat.ble_eq, Nat.blt_eq]; exact ⟨⟨⟨⟨hb1, hb2⟩, hz0⟩, hok⟩, hzl⟩
  cases m with
  | zero =>
    have hn : new = [] := List.eq_nil_of_length_eq_zero (by simpa using hnew)
    subst hn
    refine ⟨x, s, ?_, by simpa using hx, ⟨Nat.le_refl _, fun _ _ _ => rfl⟩, .inl rfl, hx.sees⟩
    unfold appendA
    rcases hxd with ⟨e2, rfl⟩ | rfl <;>
    simp only [hu, hux, hsz, hby, hzv, hy]
    all_goals (cases hx <;> simp only [hcond, if_true])
  | succ m =>
    cases hx with
    | nil =>
      obtain ⟨h1, h2⟩ := Own.new (s := s) hnew
      refine ⟨_, _, ?_, by simpa using h2, ⟨by rw [next_new]; omega, fun i hi _ => (Stay.new s _).get i hi⟩, .inr ⟨s.next, rfl, Nat.le_refl _⟩, .nil⟩
      unfold appendA
      rcases hxd with ⟨e2, rfl⟩ | rfl <;>
      simp only [hu, hux, hsz, hby, hzv, hy, hcond, if_true, h1]
      all_goals simp
    | of i n low l hi hb hl hlen =>
      have hc1 : (true && Nat.ble low (l.length + 1) && Nat.beq z z) = true := by simp [hl]
      have hc2 : (Nat.beq (l.length + 1) (l.length + 1) && Nat.beq 0 0 && Nat.beq (n * z) l.length) = true := by simp [hlen]
      refine ⟨.slice (some ⟨i, 0, none⟩) (n + (m + 1)) ((l ++ new).length + 1), s.put i (.blk ⟨l ++ new, low, true, z⟩), ?_, ?_, ⟨by simp [ASt.put], fun j _ hj => ?_⟩, .inl rfl, ?_⟩
      · unfold appendA
        rcases hxd with ⟨e2, rfl⟩ | rfl <;>
        simp only [hu, hux, hsz, hby, hzv, hy, hcond, if_true, hb, hc1, hc2]
      · refine .of i _ low _ (by simpa [ASt.put] using hi) (by rw [ASt.blk?_put_self _ _ _ (by omega)]) (by rw [List.length_append]; omega) (by rw [List.length_append, hlen, hnew, Nat.add_mul n (m + 1) z])
      · rw [ASt.get_put_ne]
        intro e; subst e; exact hj rfl
      · refine .of i 0 n _ ⟨l ++ new, low, true, z⟩ l (by simpa [ASt.put] using hi) (by rw [ASt.blk?_put_self _ _ _ (by omega)]) rfl hl (by simp) hlen (by omega) ?_
        rw [List.drop_zero, ← hlen, List.take_left]
section
variable {P : Program} {lib : Prims} {all r : List Oper} {f : AFr} {s : ASt} {d : Option Tmp} {Q : AFr → ASt → Prop}
theorem wstep_append2 {st xt e : TypeId} {xd : TypeDesc} {z by8 : Nat} {zv : Value} (hu : P.underlying st = some (.slice e)) (hux : P.underlying xt = some xd) (hxd : (∃ e2, xd = .slice e2) ∨ xd = .string) (hsz : sizeB P e = some z) (hby : bytesB P e = some by8) (hzv : zeroB P e = some zv) (hzl : Nat.beq zv.cells.toList.length z = true)
    {x y : Value} {n m : Nat} {l new : List Value} (hx : Own s z x n l) (hy : srcCells s z y = some (m, new)) (hnew : new.length = m * z) (hz0 : 0 < z) (hok : new.all okCell = true) (hb1 : (n + m) * by8 ≤ 4294967296) (hb2 : n + m ≤ 4294967296) {base : Nat} (hF : Fresh base x) (hB : base ≤ s.next)
    (K : ∀ x' s', Own s' z x' (n + m) (l ++ new) → Fresh base x' → Stay base s s' → Turns x s s' → (idOf x' = idOf x ∨ ∃ i, idOf x' = some i ∧ s.next ≤ i) → Sees s' z x n l → wstep P lib all r f s d Q (some (.val x' s'))) : wstep P lib all r f s d Q (pOf (appendA P s st xt x y)) := by
  obtain ⟨x', s', h1, h2, h3, h4, h5⟩ := Own.append2 hu hux hxd hsz hby hzv hzl hx hy hnew hz0 hok hb1 hb2
  rw [h1, pOf_some]
  refine K _ _ h2 (fun i hi => ?_) (h3.keeps hF hB) h3 h4 h5
  rcases h4 with h4 | ⟨j, hj, hl⟩
  · exact hF i (by rw [← h4]; exact hi)
  · rw [hj] at hi; injection hi with hi; omega
end
end Go.Cl
