/-
  LZW, writing: the longest row of the table that stands, found step by step and found by looking at all.
-/
import Derived.Test.YtoddiggebjbnnaaMapS
namespace Go.Cl.Lz
abbrev Tab := List (List UInt8 × Int)
/-- Step by step: as long as a row that is one byte longer is in the table. -/
def ext (T : Tab) (b : List UInt8) : Nat → Nat → Int → Nat × Int
  | 0, n, c => (n, c)
  | k + 1, n, c =>
    match seek (b.take (n + 1)) T with
    | some x => ext T b k (n + 1) x
    | none => (n, c)
/-- By looking at all rows. -/
def best (b : List UInt8) : Tab → Nat × Int → Nat × Int
  | [], p => p
  | e :: T, p => best b T (if p.1 < e.1.length ∧ b.take e.1.length = e.1 then (e.1.length, e.2) else p)
/-- Each row of the table is two bytes long or longer, and without its last byte is a row, too; no row is there twice. -/
structure Closed (T : Tab) : Prop where
  two : ∀ e ∈ T, 2 ≤ e.1.length
  pre : ∀ e ∈ T, 2 < e.1.length → ∃ x, (e.1.dropLast, x) ∈ T
  one : ∀ e ∈ T, ∀ e' ∈ T, e.1 = e'.1 → e = e'
theorem seek_some {k : List UInt8} {v : Int} : ∀ {T : Tab}, seek k T = some v → (k, v) ∈ T
  | [], h => by cases h
  | e :: T, h => by
    simp only [seek] at h
    by_cases q : k = e.1
    · rw [if_pos q] at h; injection h with h; subst h; subst q; exact List.mem_cons_self ..
    · rw [if_neg q] at h; exact List.mem_cons_of_mem _ (seek_some h)
theorem Closed.seek {T : Tab} (h : Closed T) {k : List UInt8} {v : Int} (hm : (k, v) ∈ T) : Go.Cl.seek k T = some v := by
  cases hs : Go.Cl.seek k T with
  | none => exact absurd rfl (seek_none.mp hs _ hm)
  | some w =>
    have := h.one _ (seek_some hs) _ hm rfl
    injection this with _ e; rw [e]
/-- What stands in part. -/
theorem Closed.down {T : Tab} (h : Closed T) {b : List UInt8} : ∀ (d : Nat) (e : List UInt8 × Int) (m : Nat), e ∈ T → b.take e.1.length = e.1 → 2 ≤ m → m + d = e.1.length → ∃ x, (b.take m, x) ∈ T := by
  intro d
  induction d with
  | zero => intro e m he hb _ hm; exact ⟨e.2, by rw [show m = e.1.length by omega, hb]; exact he⟩
  | succ d ih =>
    intro e m he hb h2 hm
    obtain ⟨x, hx⟩ := h.pre e he (by omega)
    have hl : e.1.dropLast.length = e.1.length - 1 := List.length_dropLast
    refine ih (e.1.dropLast, x) m hx ?_ h2 (by show m + d = e.1.dropLast.length; omega)
    show b.take e.1.dropLast.length = e.1.dropLast
    rw [hl, List.dropLast_eq_take]
    conv => rhs; rw [← hb]
    rw [List.take_take, Nat.min_eq_left (by rw [hb]; omega), hb]
/-- A row that stands, with its number; or the first byte alone. -/
def Stand (T : Tab) (b : List UInt8) (c0 : Int) (p : Nat × Int) : Prop := (p = (1, c0)) ∨ (2 ≤ p.1 ∧ (b.take p.1, p.2) ∈ T ∧ p.1 ≤ b.length)
def Most (T : Tab) (b : List UInt8) (n : Nat) : Prop := ∀ e ∈ T, b.take e.1.length = e.1 → e.1.length ≤ n
theorem stand_one {T : Tab} (h : Closed T) {b : List UInt8} {c0 : Int} {p q : Nat × Int} (hp : Stand T b c0 p) (hq : Stand T b c0 q) (hm : Most T b p.1) (hn : Most T b q.1) : p = q := by
  have aux : ∀ {p q : Nat × Int}, Stand T b c0 p → Most T b q.1 → Stand T b c0 q → p.1 ≤ q.1 := by
    intro p q hp hn hq
    rcases hp with rfl | ⟨h2, hmem, hl⟩
    · rcases hq with rfl | ⟨h2, _⟩
      · exact Nat.le_refl _
      · show 1 ≤ q.1; omega
    · have := hn _ hmem (by show b.take (b.take p.1).length = b.take p.1; rw [List.length_take, Nat.min_eq_left hl])
      have e : (b.take p.1).length = p.1 := by rw [List.length_take]; omega
      simp only [e] at this; exact this
  have h1 := aux hp hn hq
  have h2 := aux hq hm hp
  have e1 : p.1 = q.1 := by omega
  rcases hp with rfl | ⟨a1, a2, a3⟩
  · rcases hq with rfl | ⟨b1, b2, b3⟩
    · rfl
    · simp only at e1; omega
  · rcases hq with rfl | ⟨b1, b2, b3⟩
    · simp only at e1; omega
    · rw [e1] at a2
      have := h.one _ a2 _ b2 rfl
      injection this with _ e2
      exact Prod.ext e1 e2
theorem ext_stand {T : Tab} (h : Closed T) {b : List UInt8} {c0 : Int} : ∀ (k n : Nat) (c : Int), n + k = b.length → 1 ≤ n → Stand T b c0 (n, c) → Stand T b c0 (ext T b k n c) ∧ Most T b (ext T b k n c).1 := by
  intro k
  induction k with
  | zero =>
    intro n c hk h1 hs
    refine ⟨hs, fun e he hb => ?_⟩
    show e.1.length ≤ n
    have : e.1.length ≤ b.length := by rw [← hb, List.length_take]; omega
    omega
  | succ k ih =>
    intro n c hk h1 hs
    rw [ext]
    cases hx : Go.Cl.seek (b.take (n + 1)) T with
    | some x => exact ih (n + 1) x (by omega) (by omega) (.inr ⟨by show 2 ≤ n + 1; omega, seek_some hx, by show n + 1 ≤ b.length; omega⟩)
    | none =>
      refine ⟨hs, fun e he hb => ?_⟩
      show e.1.length ≤ n
      rcases Nat.lt_or_ge n e.1.length with q | q
      · obtain ⟨x, hx2⟩ := h.down (e.1.length - (n + 1)) e (n + 1) he hb (by omega) (by omega)
        exact absurd rfl (seek_none.mp hx _ hx2)
      · exact q
theorem best_stand {b : List UInt8} {c0 : Int} {A : Tab} : ∀ (T : Tab) (p : Nat × Int), (∀ e ∈ T, e ∈ A) → (∀ e ∈ T, 2 ≤ e.1.length) → Stand A b c0 p → Stand A b c0 (best b T p) ∧ p.1 ≤ (best b T p).1 ∧ Most T b (best b T p).1
  | [], p, _, _, hs => ⟨hs, Nat.le_refl _, fun e he => by cases he⟩
  | e :: T, p, hA, h2, hs => by
    have hA' := fun x hx => hA x (List.mem_cons_of_mem _ hx)
    have h2' := fun x hx => h2 x (List.mem_cons_of_mem _ hx)
    have he := hA e (List.mem_cons_self ..)
    have hel := h2 e (List.mem_cons_self ..)
    rw [best]
    by_cases q : p.1 < e.1.length ∧ b.take e.1.length = e.1
    · rw [if_pos q]
      have hlb : e.1.length ≤ b.length := by
        have := congrArg List.length q.2
        rw [List.length_take] at this; omega
      obtain ⟨g1, g2, g3⟩ := best_stand T (e.1.length, e.2) hA' h2' (.inr ⟨hel, by show (b.take e.1.length, e.2) ∈ A; rw [q.2]; exact he, hlb⟩)
      refine ⟨g1, by have := q.1; simp only at g2; omega, fun x hx hb => ?_⟩
      rcases List.mem_cons.mp hx with rfl | hx
      · exact g2
      · exact g3 x hx hb
    · rw [if_neg q]
      obtain ⟨g1, g2, g3⟩ := best_stand T p hA' h2' hs
      refine ⟨g1, g2, fun x hx hb => ?_⟩
      rcases List.mem_cons.mp hx with rfl | hx
      · rcases Nat.lt_or_ge p.1 x.1.length with r | r
        · exact absurd ⟨r, hb⟩ q
        · omega
      · exact g3 x hx hb
/-- Both ways find the same. -/
theorem ext_best {T : Tab} (h : Closed T) {b : List UInt8} (hb : b ≠ []) (c0 : Int) : ext T b (b.length - 1) 1 c0 = best b T (1, c0) := by
  have hl : 0 < b.length := List.length_pos_iff.mpr hb
  obtain ⟨e1, e2⟩ := ext_stand h (b := b) (c0 := c0) (b.length - 1) 1 c0 (by omega) (Nat.le_refl _) (.inl rfl)
  obtain ⟨g1, _, g3⟩ := best_stand (A := T) (c0 := c0) T (1, c0) (fun _ h => h) h.two (.inl rfl)
  exact stand_one h e1 g1 e2 g3
/-- The row that was found, and the byte behind it, is new, and the table with it is closed. -/
theorem Closed.more {T : Tab} (h : Closed T) {b : List UInt8} {c0 x : Int} {p : Nat × Int} (hs : Stand T b c0 p) (hm : Most T b p.1) (hp : p.1 < b.length) : Go.Cl.seek (b.take (p.1 + 1)) T = none ∧ Closed (T ++ [(b.take (p.1 + 1), x)]) := by
  have hlen : (b.take (p.1 + 1)).length = p.1 + 1 := by rw [List.length_take]; omega
  have hn : ∀ e ∈ T, b.take (p.1 + 1) ≠ e.1 := by
    intro e he q
    have := hm e he (by rw [← q, hlen])
    rw [← q, hlen] at this; omega
  have h1 : 1 ≤ p.1 := by
    rcases hs with rfl | ⟨a, _⟩
    · exact Nat.le_refl _
    · omega
  refine ⟨seek_none.mpr hn, ⟨fun e he => ?_, fun e he hl => ?_, fun e he e' he' q => ?_⟩⟩
  · rcases List.mem_append.mp he with he | he
    · exact h.two e he
    · rw [List.mem_singleton] at he; subst he; show 2 ≤ (b.take (p.1 + 1)).length; omega
  · rcases List.mem_append.mp he with he | he
    · obtain ⟨y, hy⟩ := h.pre e he hl
      exact ⟨y, List.mem_append_left _ hy⟩
    · rw [List.mem_singleton] at he; subst he
      simp only [hlen] at hl
      rcases hs with rfl | ⟨a1, a2, a3⟩
      · simp only at hl; omega
      · refine ⟨p.2, List.mem_append_left _ ?_⟩
        have : (b.take (p.1 + 1)).dropLast = b.take p.1 := by
          rw [List.dropLast_eq_take, hlen, List.take_take]; congr 1; omega
        show ((b.take (p.1 + 1)).dropLast, p.2) ∈ T
        rw [this]; exact a2
  · rcases List.mem_append.mp he with he | he <;> rcases List.mem_append.mp he' with he' | he'
    · exact h.one e he e' he' q
    · rw [List.mem_singleton] at he'; subst he'; exact absurd q.symm (hn e he)
    · rw [List.mem_singleton] at he; subst he; exact absurd q (hn e' he')
    · rw [List.mem_singleton] at he he'; subst he; subst he'; rfl
theorem Closed.nil : Closed [] := ⟨fun e h => by (cases h), fun e h => by (cases h), fun e h => by (cases h)⟩
end Go.Cl.Lz
