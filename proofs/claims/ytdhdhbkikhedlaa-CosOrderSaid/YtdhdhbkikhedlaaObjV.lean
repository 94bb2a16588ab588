/-
  Objects: entries of unlike keys, in whatever order.
-/
import Derived.Test.YtdhdhbkikhedlaaCosK
namespace Go.Cl
open Go.Lib
theorem lessB_trans : ∀ (a b c : List UInt8), lessB a b = true → lessB b c = true → lessB a c = true
  | _, [], _, h, _ => by simp [lessB, Op.bytesLess] at h
  | _, _ :: _, [], _, h => by simp [lessB, Op.bytesLess] at h
  | [], _ :: _, _ :: _, _, _ => by simp [lessB, Op.bytesLess]
  | x :: a, y :: b, z :: c, h, k => by
    have ih := lessB_trans a b c
    simp only [lessB] at ih h k ⊢
    simp only [Op.bytesLess, Bool.or_eq_true, decide_eq_true_eq, Bool.and_eq_true, beq_iff_eq] at h k ⊢
    rcases h with h | ⟨rfl, h⟩ <;> rcases k with k | ⟨rfl, k⟩
    · exact .inl (UInt8.lt_trans h k)
    · exact .inl h
    · exact .inl k
    · exact .inr ⟨rfl, ih h k⟩
/-- By rising keys. -/
def Asc (D : List (List UInt8 × O)) : Prop := D.Pairwise fun x y => lessB x.1 y.1 = true
theorem others_all {k : List UInt8} {d : List (List UInt8 × O)} (h : ∀ y ∈ d, y.1 ≠ k) : others k d = d := by
  unfold others
  rw [List.filter_eq_self]
  intro y hy
  simpa using h y hy
theorem putE_new {D : List (List UInt8 × O)} {e : List UInt8 × O} (hs : Asc D) (hk : e.2.kind ≠ 0) (hn : ∀ y ∈ D, y.1 ≠ e.1) : Asc (putE D e) ∧ (putE D e).Perm (e :: D) := by
  have h1 : others e.1 (D.take (atE D e.1)) = D.take (atE D e.1) := others_all (fun y hy => hn y (List.mem_of_mem_take hy))
  have h2 : others e.1 (D.drop (atE D e.1)) = D.drop (atE D e.1) := others_all (fun y hy => hn y (List.mem_of_mem_drop hy))
  have he : putE D e = D.take (atE D e.1) ++ (e :: D.drop (atE D e.1)) := by
    unfold putE; rw [h1, h2, if_neg hk, List.append_assoc]; rfl
  have hsplit : D.take (atE D e.1) ++ D.drop (atE D e.1) = D := List.take_append_drop _ _
  have hlow : ∀ y ∈ D.take (atE D e.1), lessB y.1 e.1 = true := by
    intro y hy
    obtain ⟨i, hi, rfl⟩ := List.mem_iff_getElem.1 hy
    rw [List.length_take] at hi
    rw [List.getElem_take]
    exact atE_less (by omega) (by omega)
  have hs' := hs
  unfold Asc at hs'
  rw [← hsplit, List.pairwise_append] at hs'
  obtain ⟨s1, s2, s3⟩ := hs'
  have hhigh : ∀ y ∈ D.drop (atE D e.1), lessB e.1 y.1 = true := by
    cases hd : D.drop (atE D e.1) with
    | nil => intro y hy; cases hy
    | cons z r =>
      have hlt : atE D e.1 < D.length := by
        rcases Nat.lt_or_ge (atE D e.1) D.length with q | q
        · exact q
        · rw [List.drop_eq_nil_of_le q] at hd; cases hd
      have hz : z = D[atE D e.1] := by
        rw [List.drop_eq_getElem_cons hlt] at hd
        injection hd with hd _; exact hd.symm
      have hnl : lessB z.1 e.1 = false := by
        rw [hz]
        have := List.findIdx_getElem (p := fun y : List UInt8 × O => !(lessB y.1 e.1)) (xs := D) (w := hlt)
        have this : (!(lessB (D[atE D e.1]'hlt).1 e.1)) = true := this
        cases hq : lessB (D[atE D e.1]'hlt).1 e.1 with
        | false => rfl
        | true => rw [hq] at this; cases this
      have hez : lessB e.1 z.1 = true := by
        have := lessB_total e.1 z.1
        rw [hnl] at this
        have hne : (e.1 == z.1) = false := beq_eq_false_iff_ne.2 (fun q => hn z (by rw [← hsplit, hd]; simp) q.symm)
        rw [hne] at this
        simpa using this
      rw [hd] at s2
      intro y hy
      rcases List.mem_cons.1 hy with hy | hy
      · rw [hy]; exact hez
      · exact lessB_trans _ _ _ hez ((List.pairwise_cons.1 s2).1 y hy)
  rw [he]
  refine ⟨?_, ?_⟩
  · unfold Asc
    rw [List.pairwise_append]
    refine ⟨s1, List.pairwise_cons.2 ⟨hhigh, s2⟩, fun x hx y hy => ?_⟩
    rcases List.mem_cons.1 hy with hy | hy
    · rw [hy]; exact hlow x hx
    · exact s3 x hx y hy
  · have := List.perm_middle (a := e) (l₁ := D.take (atE D e.1)) (l₂ := D.drop (atE D e.1))
    rwa [hsplit] at this
theorem putAll_new : ∀ (l D : List (List UInt8 × O)), Asc D → (∀ e ∈ l, e.2.kind ≠ 0) → l.Pairwise (fun x y => x.1 ≠ y.1) → (∀ e ∈ l, ∀ y ∈ D, y.1 ≠ e.1) → Asc (putAll D l) ∧ (putAll D l).Perm (l ++ D) := by
  intro l
  induction l with
  | nil => intro D h _ _ _; exact ⟨h, List.Perm.refl _⟩
  | cons e l ih =>
    intro D hs hk hp hn
    obtain ⟨h1, h2⟩ := putE_new hs (hk e (List.mem_cons_self ..)) (hn e (List.mem_cons_self ..))
    obtain ⟨p1, p2⟩ := List.pairwise_cons.1 hp
    obtain ⟨h3, h4⟩ := ih (putE D e) h1 (fun x hx => hk x (List.mem_cons_of_mem _ hx)) p2 (fun x hx y hy => by
      rcases putE_mem hy with hy | hy
      · exact hn x (List.mem_cons_of_mem _ hx) y hy
      · rw [hy]; exact p1 x hx)
    refine ⟨h3, h4.trans ?_⟩
    have : (l ++ putE D e).Perm (l ++ (e :: D)) := List.Perm.append_left l h2
    exact this.trans List.perm_middle
/-- Rows by rising keys are what they hold. -/
theorem asc_unique : ∀ (A B : List (List UInt8 × O)), Asc A → Asc B → A.Perm B → A = B
  | [], B, _, _, h => (List.nil_perm.1 h).symm ▸ rfl
  | a :: A, [], _, _, h => by have := h.length_eq; simp at this
  | a :: A, b :: B, ha, hb, h => by
    obtain ⟨a1, a2⟩ := List.pairwise_cons.1 ha
    obtain ⟨b1, b2⟩ := List.pairwise_cons.1 hb
    have hab : a = b := by
      have m1 : a ∈ b :: B := h.mem_iff.1 (List.mem_cons_self ..)
      have m2 : b ∈ a :: A := h.mem_iff.2 (List.mem_cons_self ..)
      rcases List.mem_cons.1 m1 with m1 | m1
      · exact m1
      rcases List.mem_cons.1 m2 with m2 | m2
      · exact m2.symm
      have q := lessB_trans _ _ _ (a1 b m2) (b1 a m1)
      rw [lessB_irrefl] at q; cases q
    subst hab
    rw [asc_unique A B a2 b2 (List.Perm.cons_inv h)]
theorem putAll_turn {l : List (List UInt8 × O)} (hk : ∀ e ∈ l, e.2.kind ≠ 0) (hp : l.Pairwise (fun x y => x.1 ≠ y.1)) (n : Nat) : putAll [] l = putAll [] (l.drop n ++ l.take n) := by
  have hperm : (l.drop n ++ l.take n).Perm l := by
    have := List.perm_append_comm (l₁ := l.drop n) (l₂ := l.take n)
    rwa [List.take_append_drop] at this
  obtain ⟨h1, h2⟩ := putAll_new l [] List.Pairwise.nil hk hp (fun e he y hy => by cases hy)
  have hp' : (l.drop n ++ l.take n).Pairwise (fun x y => x.1 ≠ y.1) := hperm.symm.pairwise hp (fun h => h.symm)
  obtain ⟨h3, h4⟩ := putAll_new (l.drop n ++ l.take n) [] List.Pairwise.nil (fun e he => hk e (hperm.mem_iff.1 he)) hp' (fun e he y hy => by cases hy)
  rw [List.append_nil] at h2 h4
  exact asc_unique _ _ h1 h3 (h2.trans (hperm.symm.trans h4.symm))
theorem putAll_find {l : List (List UInt8 × O)} (hk : ∀ e ∈ l, e.2.kind ≠ 0) (hp : l.Pairwise (fun x y => x.1 ≠ y.1)) {e : List UInt8 × O} (he : e ∈ l) : findE (putAll [] l) e.1 = e.2 := by
  obtain ⟨h1, h2⟩ := putAll_new l [] List.Pairwise.nil hk hp (fun e he y hy => by cases hy)
  rw [List.append_nil] at h2
  unfold findE
  cases hf : (putAll [] l).find? (fun y => y.1 == e.1) with
  | none =>
    rw [List.find?_eq_none] at hf
    have := hf e (h2.mem_iff.2 he)
    simp at this
  | some y =>
    have hy : y ∈ l := h2.mem_iff.1 (List.mem_of_find?_eq_some hf)
    have hk2 : y.1 = e.1 := by have := List.find?_some hf; simpa using this
    show y.2 = e.2
    obtain ⟨i, hi, rfl⟩ := List.mem_iff_getElem.1 hy
    obtain ⟨j, hj, rfl⟩ := List.mem_iff_getElem.1 he
    have hij : i = j := by
      rcases Nat.lt_trichotomy i j with q | q | q
      · exact absurd hk2 (List.pairwise_iff_getElem.1 hp i j hi hj q)
      · exact q
      · exact absurd hk2.symm (List.pairwise_iff_getElem.1 hp j i hj hi q)
    subst hij; rfl
theorem putAll_length {l : List (List UInt8 × O)} (hk : ∀ e ∈ l, e.2.kind ≠ 0) (hp : l.Pairwise (fun x y => x.1 ≠ y.1)) : (putAll [] l).length = l.length := by
  obtain ⟨h1, h2⟩ := putAll_new l [] List.Pairwise.nil hk hp (fun e he y hy => by cases hy)
  rw [List.append_nil] at h2
  exact h2.length_eq
theorem putAll_rises {l : List (List UInt8 × O)} (hk : ∀ e ∈ l, e.2.kind ≠ 0) (hp : l.Pairwise (fun x y => x.1 ≠ y.1)) {i : Nat} (h : i + 1 < (putAll [] l).length) : lessB (putAll [] l)[i].1 (putAll [] l)[i + 1].1 = true := by
  obtain ⟨h1, h2⟩ := putAll_new l [] List.Pairwise.nil hk hp (fun e he y hy => by cases hy)
  exact List.pairwise_iff_getElem.1 h1 i (i + 1) (by omega) h (by omega)
end Go.Cl
