/-
  The clean machine, part 4: rows that grow, rows that are left, maps.
-/
import Derived.Test.YtbakljlaladpoaaCl3
namespace Go.Cl
open Go.RowKit

theorem getD_append_lt (l m : List Value) (p : Nat) (h : p < l.length) : (l ++ m).getD p undef = l.getD p undef := by
  simp [List.getD_eq_getElem?_getD, List.getElem?_append, h]
theorem getD_append_ge (l m : List Value) (p : Nat) (h : l.length ≤ p) : (l ++ m).getD p undef = m.getD (p - l.length) undef := by
  simp [List.getD_eq_getElem?_getD, List.getElem?_append, Nat.not_lt.2 h]

/-- A row grows where it lies. -/
theorem Good.growRoom {base : Nat} {S : St} (h : SR base S) {i c : Nat} {b : Blk} (hb : S.s.blk? i = some b) (ho : b.own = true) (hc : Live b c) (hcur : c = b.cells.length + 1) {new new' : List Value}
    (hv : VRL S new new') {arr : Array Value} {E : TypeId} {fr : Nat × Nat} (ha : S.w.heap[(S.e.loc i c).1]? = some (.cells arr E fr)) (hfit : (S.e.loc i c).2 + b.cells.length + new'.length ≤ arr.size) :
    Good base S ⟨S.s.put i (.blk { b with cells := b.cells ++ new }), ⟨fun j c' => if j = i ∧ c < c' then S.e.loc i c else S.e.loc j c', S.e.mp⟩, setCells S.w (S.e.loc i c).1 ((S.e.loc i c).2 + b.cells.length) new'⟩ := by
  obtain ⟨ho1, ⟨arr0, E0, fr0, ho2, ho3⟩, ho4, ho5⟩ := h.own i b hb ho c hc
  rw [ha] at ho2
  injection ho2 with ho2; injection ho2 with e1 e2 e3
  subst e1; subst e2; subst e3
  have hvl : new'.length = new.length := hv.1.symm
  obtain ⟨arr', ha1, ha2, ha3⟩ := setCells_block new' S.w _ _ arr E fr ha hfit
  have hloc : ∀ c', (if i = i ∧ c < c' then S.e.loc i c else S.e.loc i c') = if c < c' then S.e.loc i c else S.e.loc i c' := fun c' => by simp
  have hown : ∀ c', Live { b with cells := b.cells ++ new } c' → ¬ c < c' → Live b c' := fun c' hc' hlt => ⟨hc'.1, by omega⟩
  refine SR.change h i (S.e.loc i c).1 S.s.next { b with cells := b.cells ++ new } _ _ (h.lt hb) (Nat.le_refl _) h.room (.inl (h.lt hb)) (fun es he => blk_not_map hb he) (h.low i b hb) ?_
    (fun j hj => by funext c'; rw [if_neg (by simp [hj])]) (fun k hk _ => setCells_ne _ _ _ _ _ hk) (fun j bj c' hj hbj hc' e => hj (ho4 j bj hbj c' hc' e)) ?_ ?_ ?_ ?_ ?_ ?_ (setCells_below _ _ _ _ _ ho1)
    (by rw [setCells_size]; exact Nat.le_refl _)
  · intro b0 hb0
    rw [hb] at hb0; obtain rfl := Option.some.inj hb0
    exact ⟨by simp, Nat.le_refl _, rfl, fun c' hc' _ => by rw [if_neg (by omega)]⟩
  · intro r es he e
    obtain ⟨_, es', clk, h2, _⟩ := h.map r es he
    rw [e, ha] at h2; cases h2
  · intro c' hc'
    rw [hloc, setCells_size]
    by_cases hlt : c < c'
    · rw [if_pos hlt]; exact h.inb i b hb c hc
    · rw [if_neg hlt]; exact h.inb i b hb c' (hown c' hc' hlt)
  · intro c' hc' p hp
    have hpl : p < b.cells.length + new.length := by have := hc'.2; simp only [List.length_append] at this; omega
    simp only [true_and]
    by_cases hlt : c < c'
    · rw [if_pos hlt, cell_of_block _ _ _ _ _ _ ha1, ha3]
      by_cases hp1 : p < b.cells.length
      · rw [if_neg (by omega), getD_append_lt _ _ _ hp1, ← cell_of_block _ _ _ _ _ _ ha]
        exact h.cell i b hb c hc p (by omega)
      · rw [if_pos (by omega), getD_append_ge _ _ _ (by omega), show (S.e.loc i c).2 + p - ((S.e.loc i c).2 + b.cells.length) = p - b.cells.length by omega]
        exact ⟨_, rfl, hv.2 (p - b.cells.length) (by omega)⟩
    · rw [if_neg hlt]
      have hcb := hown c' hc' hlt
      have hp1 : p < b.cells.length := by omega
      obtain ⟨v, h1, h2⟩ := h.cell i b hb c' hcb p hp
      rw [getD_append_lt _ _ _ hp1]
      refine ⟨v, ?_, h2⟩
      by_cases hcc : c' = c
      · subst hcc
        rw [cell_of_block _ _ _ _ _ _ ha1, ha3, if_neg (by omega), ← cell_of_block _ _ _ _ _ _ ha]; exact h1
      · by_cases hblk : (S.e.loc i c').1 = (S.e.loc i c).1
        · have hsame := ho5 c' hcb hblk
          rw [hsame] at h1 ⊢
          rw [cell_of_block _ _ _ _ _ _ ha1, ha3, if_neg (by omega), ← cell_of_block _ _ _ _ _ _ ha]; exact h1
        · rw [← h1]; exact World.cell?_of_block (setCells_ne _ _ _ _ _ hblk)
  · intro _ c' hc'
    rw [hloc]
    by_cases hlt : c < c'
    · rw [if_pos hlt]
      refine ⟨ho1, ⟨arr', E, fr, ha1, by rw [ha2]; exact ho3⟩, fun j bj hj hbj c1 hc1 e => hj (ho4 j bj hbj c1 hc1 e), fun c1 hc1 => ?_⟩
      rw [hloc]
      by_cases hlt1 : c < c1
      · rw [if_pos hlt1]; exact fun _ => rfl
      · rw [if_neg hlt1]; exact ho5 c1 (hown c1 hc1 hlt1)
    · rw [if_neg hlt]
      obtain ⟨h1, ⟨arr1, E1, fr1, h2, h3⟩, h4, h5⟩ := h.own i b hb ho c' (hown c' hc' hlt)
      refine ⟨h1, ?_, fun j bj hj hbj c1 hc1 e => hj (h4 j bj hbj c1 hc1 e), fun c1 hc1 => ?_⟩
      case refine_2 =>
        rw [hloc]
        by_cases hlt1 : c < c1
        · rw [if_pos hlt1]; exact h5 c hc
        · rw [if_neg hlt1]; exact h5 c1 (hown c1 hc1 hlt1)
      by_cases hblk : (S.e.loc i c').1 = (S.e.loc i c).1
      · rw [hblk, ha] at h2
        injection h2 with h2; injection h2 with e1 e2 e3
        subst e1; subst e2; subst e3
        exact ⟨arr', E, fr, by rw [hblk]; exact ha1, by rw [ha2]; exact h3⟩
      · exact ⟨arr1, E1, fr1, by rw [setCells_ne _ _ _ _ _ hblk]; exact h2, h3⟩
  · intro j bj hj hbj hbo c1 hc1 c' hc' e
    rw [hloc] at e
    by_cases hlt : c < c'
    · rw [if_pos hlt] at e; exact hj (ho4 j bj hbj c1 hc1 e.symm)
    · rw [if_neg hlt] at e
      exact hj ((h.own i b hb ho c' (hown c' hc' hlt)).2.2.1 j bj hbj c1 hc1 e.symm)
  · intro arr0 E0 fr0 hk
    rw [ha] at hk
    injection hk with hk; injection hk with e1 e2 e3
    subst e1; subst e2
    exact ⟨arr', fr, ha1, ha2⟩

/-- A row grows and is laid anew. -/
theorem Good.growNew {base : Nat} {S : St} (h : SR base S) {i c : Nat} {b : Blk} (hb : S.s.blk? i = some b) (ho : b.own = true) (hcur : c = b.cells.length + 1) {new : List Value}
    {arr : Array Value} {E : TypeId} {fr : Nat × Nat} {W : World} (hW : Pushed S.w W (.cells arr E fr)) (hfr : fr.1 = fr.2 ∨ arr.size ≤ fr.1) (hle : b.cells.length + new.length ≤ arr.size)
    (hv : ∀ p, p < b.cells.length + new.length → VR S ((b.cells ++ new).getD p undef) (arr.toList.getD p undef)) :
    Good base S ⟨S.s.put i (.blk { b with cells := b.cells ++ new }), ⟨fun j c' => if j = i ∧ c < c' then (S.w.heap.size, 0) else S.e.loc j c', S.e.mp⟩, W⟩ := by
  have hloc : ∀ c', (if i = i ∧ c < c' then (S.w.heap.size, 0) else S.e.loc i c') = if c < c' then (S.w.heap.size, 0) else S.e.loc i c' := fun c' => by simp
  have hown : ∀ c', Live { b with cells := b.cells ++ new } c' → ¬ c < c' → Live b c' := fun c' hc' hlt => ⟨hc'.1, by omega⟩
  refine SR.change h i S.w.heap.size S.s.next { b with cells := b.cells ++ new } _ _ (h.lt hb) (Nat.le_refl _) h.room (.inl (h.lt hb)) (fun es he => blk_not_map hb he) (h.low i b hb) ?_
    (fun j hj => by funext c'; rw [if_neg (by simp [hj])]) (fun k _ hk => hW.old k hk) (fun j bj c' _ hbj hc' => Nat.ne_of_lt (h.inb j bj hbj c' hc')) (fun r es he => Nat.ne_of_lt (h.mp_lt he)) ?_ ?_ ?_ ?_ ?_
    (hW.below h.size) (by rw [hW.size]; omega)
  · intro b0 hb0
    rw [hb] at hb0; obtain rfl := Option.some.inj hb0
    exact ⟨by simp, Nat.le_refl _, rfl, fun c' hc' _ => by rw [if_neg (by omega)]⟩
  · intro c' hc'
    rw [hloc, hW.size]
    by_cases hlt : c < c'
    · rw [if_pos hlt]; exact Nat.lt_succ_self _
    · rw [if_neg hlt]; exact Nat.lt_succ_of_lt (h.inb i b hb c' (hown c' hc' hlt))
  · intro c' hc' p hp
    have hpl : p < b.cells.length + new.length := by have := hc'.2; simp only [List.length_append] at this; omega
    simp only [true_and]
    by_cases hlt : c < c'
    · rw [if_pos hlt]
      refine ⟨arr.toList.getD p undef, ?_, hv p hpl⟩
      have hpa : p < arr.size := by omega
      rw [cell_of_block W _ _ arr E fr hW.new]
      simp [List.getD_eq_getElem?_getD, hpa]
    · rw [if_neg hlt]
      have hcb := hown c' hc' hlt
      obtain ⟨v, h1, h2⟩ := h.cell i b hb c' hcb p hp
      rw [getD_append_lt _ _ _ (by omega)]
      exact ⟨v, by rw [← h1]; exact World.cell?_of_block (hW.old _ (h.inb i b hb c' hcb)), h2⟩
  · intro _ c' hc'
    rw [hloc]
    by_cases hlt : c < c'
    · rw [if_pos hlt]
      refine ⟨h.size, ⟨arr, E, fr, hW.new, hfr⟩, fun j bj _ hbj c1 hc1 => Nat.ne_of_lt (h.inb j bj hbj c1 hc1), fun c1 hc1 => ?_⟩
      rw [hloc]
      by_cases hlt1 : c < c1
      · rw [if_pos hlt1]; exact fun _ => rfl
      · rw [if_neg hlt1]; exact fun e => absurd e (Nat.ne_of_lt (h.inb i b hb c1 (hown c1 hc1 hlt1)))
    · rw [if_neg hlt]
      obtain ⟨h1, ⟨arr1, E1, fr1, h2, h3⟩, h4, h5⟩ := h.own i b hb ho c' (hown c' hc' hlt)
      refine ⟨h1, ⟨arr1, E1, fr1, by rw [hW.old _ (lt_of_cells h2)]; exact h2, h3⟩, fun j bj hj hbj c1 hc1 e => hj (h4 j bj hbj c1 hc1 e), fun c1 hc1 => ?_⟩
      rw [hloc]
      by_cases hlt1 : c < c1
      · rw [if_pos hlt1]; exact fun e => absurd e (Ne.symm (Nat.ne_of_lt (lt_of_cells h2)))
      · rw [if_neg hlt1]; exact h5 c1 (hown c1 hc1 hlt1)
  · intro j bj hj hbj hbo c1 hc1 c' hc' e
    rw [hloc] at e
    by_cases hlt : c < c'
    · rw [if_pos hlt] at e; exact absurd e.symm (Nat.ne_of_lt (h.inb j bj hbj c1 hc1))
    · rw [if_neg hlt] at e
      exact hj ((h.own i b hb ho c' (hown c' hc' hlt)).2.2.1 j bj hbj c1 hc1 e.symm)
  · intro arr0 E0 fr0 hk
    exact absurd (lt_of_cells hk) (by omega)

/-- A block is given up. -/
theorem Good.kill {base : Nat} {S : St} (h : SR base S) {i : Nat} {b : Blk} (hb : S.s.blk? i = some b) : Good base S ⟨S.s.put i (.blk (Cl.kill b)), S.e, S.w⟩ := by
  have hdead : ∀ c, ¬ Live (Cl.kill b) c := fun c hc => by have h1 := hc.1; have h2 := hc.2; simp only [Cl.kill] at h1 h2; omega
  refine SR.change h i S.w.heap.size S.s.next (Cl.kill b) S.e.loc S.w (h.lt hb) (Nat.le_refl _) h.room (.inl (h.lt hb)) (fun es he => blk_not_map hb he) (by simp [Cl.kill]) ?_ (fun _ _ => rfl) (fun _ _ _ => rfl)
    (fun j bj c' _ hbj hc' => Nat.ne_of_lt (h.inb j bj hbj c' hc')) (fun r es he => Nat.ne_of_lt (h.mp_lt he)) (fun c hc => absurd hc (hdead c)) (fun c hc => absurd hc (hdead c)) (fun _ c hc => absurd hc (hdead c))
    (fun _ _ _ _ _ _ _ c hc => absurd hc (hdead c)) (fun arr E fr hk => absurd (lt_of_cells hk) (by omega)) (Below.refl _ _) (Nat.le_refl _)
  intro b0 hb0
  rw [hb] at hb0; obtain rfl := Option.some.inj hb0
  exact ⟨Nat.le_refl _, by simp only [Cl.kill]; omega, rfl, fun _ _ _ => rfl⟩

/-- A block of the call's own that nobody knows any more, taken anew: the cells that stand there, and some behind them. -/
theorem Good.reuse {base : Nat} {S : St} (h : SR base S) (hroom : S.s.room = true) {k o : Nat} {arr : Array Value} {E : TypeId} {fr : Nat × Nat} (hk : S.w.heap[k]? = some (.cells arr E fr)) (hfr : fr.1 = fr.2 ∨ arr.size ≤ fr.1)
    (hb : base ≤ k) (hex : ∀ j bj c', S.s.blk? j = some bj → Live bj c' → (S.e.loc j c').1 ≠ k) (esz : Nat) {old new new' : List Value} (hold : ∀ p, p < old.length → ∃ v, S.w.cell? ⟨k, o + p, none⟩ = some v ∧ VR S (old.getD p undef) v)
    (hv : VRL S new new') (hfit : o + old.length + new'.length ≤ arr.size) :
    Good base S ⟨S.s.new (.blk ⟨old ++ new, 1, true, esz⟩), ⟨fun j c => if j = S.s.next then (k, o) else S.e.loc j c, S.e.mp⟩, setCells S.w k (o + old.length) new'⟩ := by
  have hlt := room_lt hroom
  obtain ⟨hf1, hf2⟩ := h.fresh
  have hvl : new'.length = new.length := hv.1.symm
  obtain ⟨arr', ha1, ha2, ha3⟩ := setCells_block new' S.w k (o + old.length) arr E fr hk hfit
  refine SR.change h S.s.next k (S.s.next + 1) ⟨old ++ new, 1, true, esz⟩ _ _ (by omega) (by omega) (by omega) (.inr rfl) (fun es he => by rw [hf2] at he; cases he) (Nat.le_refl _)
    (fun b hb => by rw [hf1] at hb; cases hb) (fun j hj => by funext c; rw [if_neg hj]) (fun j hj _ => setCells_ne _ _ _ _ _ hj) (fun j bj c _ hj hc => hex j bj c hj hc) ?_
    (fun c _ => by simp only [if_true]; rw [setCells_size]; exact lt_of_cells hk) ?_ ?_ ?_ ?_ (setCells_below _ _ _ _ _ hb) (by rw [setCells_size]; exact Nat.le_refl _)
  · intro r es he e
    obtain ⟨_, es', clk, h2, _⟩ := h.map r es he
    rw [e, hk] at h2; cases h2
  · intro c hc p hp
    have hpl : p < old.length + new.length := by have := hc.2; simp only [List.length_append] at this; omega
    simp only [if_true]
    rw [cell_of_block _ _ _ _ _ _ ha1, ha3]
    by_cases hp1 : p < old.length
    · rw [if_neg (by omega), getD_append_lt _ _ _ hp1, ← cell_of_block _ _ _ _ _ _ hk]
      exact hold p hp1
    · rw [if_pos (by omega), getD_append_ge _ _ _ (by omega), show o + p - (o + old.length) = p - old.length by omega]
      exact ⟨_, rfl, hv.2 (p - old.length) (by omega)⟩
  · intro _ c _
    simp only [if_true]
    exact ⟨hb, ⟨arr', E, fr, ha1, by rw [ha2]; exact hfr⟩, fun j bj _ hj c' hc' => hex j bj c' hj hc', by intros; first | rfl | trivial⟩
  · intro j bj _ hj _ c' hc' c _ e
    simp only [if_true] at e
    exact hex j bj c' hj hc' e.symm
  · intro arr0 E0 fr0 hk0
    rw [hk] at hk0
    injection hk0 with hk0; injection hk0 with e1 e2 e3
    subst e1; subst e2
    exact ⟨arr', fr, ha1, ha2⟩

/-! Maps. -/
theorem SR.changeMap {base : Nat} {S : St} (h : SR base S) (i next : Nat) (es2 : List (Value × Value)) (mp' : Nat → Nat) (w' : World)
    (hi : i < next) (hn : S.s.next ≤ next) (hr : 0 ≤ 16000000) (hi2 : i < S.s.next ∨ i + 1 = next) (hblk : S.s.blk? i = none)
    (hold : ∀ es, S.s.map? i = some es → mp' i = S.e.mp i) (hmp : ∀ r, r ≠ i → mp' r = S.e.mp r)
    (hw : ∀ k, k ≠ mp' i → k < S.w.heap.size → w'.heap[k]? = S.w.heap[k]?) (hM : ∀ (arr : Array Value) (E : TypeId) (fr : Nat × Nat), S.w.heap[mp' i]? ≠ some (.cells arr E fr)) (hb : base ≤ mp' i)
    (hfact : ∃ (es' : Array MapEntry) (clk : Nat), w'.heap[mp' i]? = some (.map es' clk) ∧ ER S es2 es'.toList)
    (hinj : ∀ r es, r ≠ i → S.s.map? r = some es → S.e.mp r ≠ mp' i) (hbelow : Below base S.w w') :
    Good base S ⟨⟨Tr.set (depth i) S.s.heap i (.map es2), next⟩, ⟨S.e.loc, mp'⟩, w'⟩ := by
  have hget : ∀ j, j ≠ i → (Tr.set (depth i) S.s.heap i (.map es2)).get j = S.s.heap.get j := fun j hj => Tr.get_set_ne _ _ _ _ _ (Ne.symm hj)
  have hgeti : (Tr.set (depth i) S.s.heap i (.map es2)).get i = some (.map es2) := Tr.get_set_self _ _ _ _ (deep (by omega))
  have hself : (⟨Tr.set (depth i) S.s.heap i (.map es2), next⟩ : ASt).map? i = some es2 := by simp only [ASt.map?, hgeti]
  have hbl : ∀ j, (⟨Tr.set (depth i) S.s.heap i (.map es2), next⟩ : ASt).blk? j = S.s.blk? j := fun j => by
    by_cases hj : j = i
    · subst hj; rw [hblk]; simp only [ASt.blk?, hgeti]
    · simp only [ASt.blk?, hget j hj]
  have hmm : ∀ j, j ≠ i → (⟨Tr.set (depth i) S.s.heap i (.map es2), next⟩ : ASt).map? j = S.s.map? j := fun j hj => by simp only [ASt.map?, hget j hj]
  have hkeep : ∀ (k : Nat) (arr : Array Value) (E : TypeId) (fr : Nat × Nat), S.w.heap[k]? = some (.cells arr E fr) → w'.heap[k]? = some (.cells arr E fr) := fun k arr E fr hk => by
    rw [hw k (fun e => hM arr E fr (e ▸ hk)) (lt_of_cells hk)]; exact hk
  have hext : Ext S ⟨⟨Tr.set (depth i) S.s.heap i (.map es2), next⟩, ⟨S.e.loc, mp'⟩, w'⟩ := by
    refine ⟨fun j b hb => ⟨b, by rw [← hb]; exact hbl j, Nat.le_refl _, Nat.le_refl _, rfl, fun _ _ _ => rfl⟩, fun r es he => ?_, fun k arr E fr hk => ⟨arr, fr, hkeep k arr E fr hk, rfl⟩⟩
    by_cases hri : r = i
    · subst hri; exact ⟨⟨es2, hself⟩, hold es he⟩
    · exact ⟨⟨es, by rw [← he]; exact hmm r hri⟩, hmp r hri⟩
  refine ⟨⟨hr, ?_, ?_, ?_, ?_, ?_, ?_, Nat.le_trans h.size hbelow.size, ?_⟩, hext, hbelow⟩
  · intro j o hj
    by_cases hji : j = i
    · show j < next; omega
    · have hj' : (Tr.set (depth i) S.s.heap i (.map es2)).get j = some o := hj
      rw [hget j hji] at hj'
      have := h.bound j o hj'
      show j < next
      omega
  · intro j b hb; rw [hbl] at hb; exact h.low j b hb
  · intro j b hb c hc p hp
    rw [hbl] at hb
    obtain ⟨v, h1, h2⟩ := h.cell j b hb c hc p hp
    obtain ⟨arr, E, fr, h3, h4⟩ := block_of_cell h1
    exact ⟨v, by rw [cell_of_block _ _ _ _ _ _ (hkeep _ _ _ _ h3)]; exact h4, h2.mono hext⟩
  · intro j b hb hbo c hc
    rw [hbl] at hb
    obtain ⟨h1, ⟨arr, E, fr, h2, h3⟩, h4, h5⟩ := h.own j b hb hbo c hc
    exact ⟨h1, ⟨arr, E, fr, hkeep _ _ _ _ h2, h3⟩, fun k bk hk c' hc' e => by rw [hbl] at hk; exact h4 k bk hk c' hc' e, h5⟩
  · intro r es he
    by_cases hri : r = i
    · subst hri
      rw [hself] at he; obtain rfl := Option.some.inj he
      obtain ⟨es', clk, h1, h2⟩ := hfact
      exact ⟨hb, es', clk, h1, h2.mono hext⟩
    · rw [hmm r hri] at he
      obtain ⟨h1, es', clk, h2, h3⟩ := h.map r es he
      refine ⟨by show base ≤ mp' r; rw [hmp r hri]; exact h1, es', clk, ?_, h3.mono hext⟩
      show w'.heap[mp' r]? = _
      rw [hmp r hri, hw _ (hinj r es hri he) (lt_of_cells h2)]; exact h2
  · intro r r' es es' he he' hEq
    have hEq' : mp' r = mp' r' := hEq
    by_cases hri : r = i
    · by_cases hri' : r' = i
      · omega
      · rw [hmm r' hri'] at he'
        subst hri
        rw [hmp r' hri'] at hEq'
        exact absurd hEq'.symm (hinj r' es' hri' he')
    · rw [hmm r hri] at he
      by_cases hri' : r' = i
      · subst hri'
        rw [hmp r hri] at hEq'
        exact absurd hEq' (hinj r es hri he)
      · rw [hmm r' hri'] at he'
        rw [hmp r hri, hmp r' hri'] at hEq'
        exact h.mapInj r r' es es' he he' hEq'
  · intro j b hb c hc
    rw [hbl] at hb
    exact Nat.lt_of_lt_of_le (h.inb j b hb c hc) hbelow.size

theorem Good.newMap {base : Nat} {S : St} (h : SR base S) (hroom : S.s.room = true) :
    Good base S ⟨S.s.new (.map []), ⟨S.e.loc, fun r => if r = S.s.next then S.w.heap.size else S.e.mp r⟩, S.w.alloc (.map #[] 0)⟩ := by
  have hlt := room_lt hroom
  obtain ⟨hf1, hf2⟩ := h.fresh
  refine SR.changeMap h S.s.next (S.s.next + 1) [] _ _ (by omega) (by omega) (by omega) (.inr rfl) hf1 (fun es he => by rw [hf2] at he; cases he) (fun r hr => by rw [if_neg hr]) (fun k _ hk => Below.heap_alloc _ _ _ hk) ?_
    (by simp only [if_true]; exact h.size) ?_ ?_ ((Below.refl _ _).alloc h.size _)
  · intro arr E fr hk
    simp only [if_true] at hk
    exact absurd (lt_of_cells hk) (by omega)
  · simp only [if_true]
    exact ⟨#[], 0, heap_alloc_new S.w _, trivial⟩
  · intro r es _ he
    simp only [if_true]
    exact Nat.ne_of_lt (h.mp_lt he)

end Go.Cl
