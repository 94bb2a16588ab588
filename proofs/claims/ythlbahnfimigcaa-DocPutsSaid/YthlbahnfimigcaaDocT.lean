/-
 Documents: an object put: what it comes to, without a program.
-/
import Derived.Test.YthlbahnfimigcaaDocI
namespace Go.Cl
def insI (n : Int) (o : O) : List (Int × O) -> List (Int × O)
 | [] => [(n, o)]
 | e :: r => if e.1 < n then e :: insI n o r else if e.1 = n then (n, o) :: r else (n, o) :: e :: r
def setD (n : Int) (o : O) (D : Dc) : Dc := if n < 1 ∨ 8388607 < n then D else { D with items := insI n o D.items }
theorem insI_at {n : Int} {o : O} : ∀ {D : List (Int × O)} {k : Nat} (hk : k ≤ D.length), (∀ j (h : j < D.length), j < k -> D[j].1 < n) -> (∀ h : k < D.length, n ≤ D[k].1) ->
  ∀ q, (q = k ∧ (∀ h : k < D.length, D[k].1 ≠ n) ∨ q = k + 1 ∧ ∃ h : k < D.length, D[k].1 = n) -> insI n o D = D.take k ++ ((n, o) :: D.drop q)
 | [], k, hk, h1, h2, q, hq => by
  obtain rfl : k = 0 := by simpa using hk
  rcases hq with ⟨rfl, -⟩ | ⟨-, h, -⟩
  ·rfl
  ·simp at h
 | e :: r, 0, hk, h1, h2, q, hq => by
  have h2 : n ≤ e.1 := h2 (by simp)
  unfold insI
  rw [if_neg (by omega)]
  rcases hq with ⟨rfl, h⟩ | ⟨rfl, h, h'⟩
  ·have h : e.1 ≠ n := h (by simp)
   rw [if_neg h]; rfl
  ·have h' : e.1 = n := h'
   rw [if_pos h']; rfl
 | e :: r, k + 1, hk, h1, h2, q, hq => by
  have h0 : e.1 < n := h1 0 (by simp) (by omega)
  unfold insI
  rw [if_pos h0]
  obtain ⟨q', rfl⟩ : ∃ q', q = q' + 1 := by rcases hq with ⟨rfl, -⟩ | ⟨rfl, -⟩ <;> exact ⟨_, rfl⟩
  rw [insI_at (D := r) (k := k) (by simpa using hk) (fun j h hj => h1 (j + 1) (by simpa using h) (by omega)) (fun h => h2 (by simpa using h)) q' ?_]
  ·rfl
  ·rcases hq with ⟨hq, h⟩ | ⟨hq, h, h'⟩
   ·exact .inl ⟨by omega, fun h' => h (by simpa using h')⟩
   ·exact .inr ⟨by omega, by simpa using h, h'⟩
def refS (n : Int) (o : O) (x : Bool × List (Int × O)) (e : Int × O) : Bool × List (Int × O) :=
 if x.1 = false ∧ n ≤ e.1 then (if e.1 = n then (true, x.2 ++ [(n, o)]) else (true, x.2 ++ [(n, o)] ++ [e])) else (x.1, x.2 ++ [e])
def refP (n : Int) (o : O) (b : Bool) (l : List (Int × O)) : Bool × List (Int × O) := l.foldl (refS n o) (b, [])
theorem refP_take {n : Int} {o : O} {b : Bool} {D : List (Int × O)} {i : Nat} (h : i < D.length) : refP n o b (D.take (i + 1)) = refS n o (refP n o b (D.take i)) D[i] := by
 rw [List.take_add_one, List.getElem?_eq_getElem h]
 unfold refP
 rw [List.foldl_append]; rfl
theorem fold_lenT {n : Int} {o : O} : ∀ (l p : List (Int × O)), (l.foldl (refS n o) (true, p)).2.length ≤ p.length + l.length
 | [], p => Nat.le_refl _
 | e :: l, p => by
  rw [List.foldl_cons, List.length_cons]
  rw [show refS n o (true, p) e = (true, p ++ [e]) from if_neg (fun h => by have := h.1; cases this)]
  have := fold_lenT (n := n) (o := o) l (p ++ [e])
  rw [List.length_append] at this
  simp only [List.length_cons, List.length_nil] at this
  omega
theorem fold_lenF {n : Int} {o : O} : ∀ (l p : List (Int × O)), (l.foldl (refS n o) (false, p)).2.length ≤ p.length + l.length + 1
 | [], p => by show p.length ≤ _; omega
 | e :: l, p => by
  rw [List.foldl_cons, List.length_cons]
  by_cases c : e.1 < n
  ·rw [show refS n o (false, p) e = (false, p ++ [e]) by unfold refS; rw [if_neg (show ¬ ((false, p).1 = false ∧ n ≤ e.1) from fun h => by have := h.2; omega)]]
   have := fold_lenF (n := n) (o := o) l (p ++ [e])
   rw [List.length_append] at this
   simp only [List.length_cons, List.length_nil] at this
   omega
  ·by_cases c2 : e.1 = n
   ·rw [show refS n o (false, p) e = (true, p ++ [(n, o)]) by unfold refS; rw [if_pos (show (false, p).1 = false ∧ n ≤ e.1 from ⟨rfl, by omega⟩), if_pos c2]]
    have := fold_lenT (n := n) (o := o) l (p ++ [(n, o)])
    rw [List.length_append] at this
    simp only [List.length_cons, List.length_nil] at this
    omega
   ·rw [show refS n o (false, p) e = (true, p ++ [(n, o)] ++ [e]) by unfold refS; rw [if_pos (show (false, p).1 = false ∧ n ≤ e.1 from ⟨rfl, by omega⟩), if_neg c2]]
    have := fold_lenT (n := n) (o := o) l (p ++ [(n, o)] ++ [e])
    rw [List.length_append, List.length_append] at this
    simp only [List.length_cons, List.length_nil] at this
    omega
theorem refP_len {n : Int} {o : O} {b : Bool} (l : List (Int × O)) : (refP n o b l).2.length ≤ l.length + 1 := by
 unfold refP
 cases b with
 | true => have := fold_lenT (n := n) (o := o) l []; simp at this; omega
 | false => have := fold_lenF (n := n) (o := o) l []; simp at this; omega
theorem fold_done {n : Int} {o : O} : ∀ (l p : List (Int × O)), l.foldl (refS n o) (true, p) = (true, p ++ l)
 | [], p => by simp
 | e :: l, p => by
  rw [List.foldl_cons, show refS n o (true, p) e = (true, p ++ [e]) from if_neg (fun h => by have := h.1; cases this), fold_done l]
  simp
theorem fold_ins {n : Int} {o : O} : ∀ (l : List (Int × O)), l.Pairwise (fun a b => a.1 < b.1) -> ∀ p, (let x := l.foldl (refS n o) (false, p); if x.1 = false then x.2 ++ [(n, o)] else x.2) = p ++ insI n o l
 | [], _, p => by simp [insI]
 | e :: l, h, p => by
  obtain ⟨-, h2⟩ := List.pairwise_cons.1 h
  rw [List.foldl_cons]
  unfold insI
  by_cases c : e.1 < n
  ·rw [show refS n o (false, p) e = (false, p ++ [e]) by unfold refS; rw [if_neg (show ¬ ((false, p).1 = false ∧ n ≤ e.1) from fun h => by have := h.2; omega)], fold_ins l h2, if_pos c]
   simp
  ·rw [if_neg c]
   by_cases c2 : e.1 = n
   ·rw [show refS n o (false, p) e = (true, p ++ [(n, o)]) by unfold refS; rw [if_pos (show (false, p).1 = false ∧ n ≤ e.1 from ⟨rfl, by omega⟩), if_pos c2], fold_done l, if_pos c2]
    simp
   ·rw [show refS n o (false, p) e = (true, p ++ [(n, o)] ++ [e]) by unfold refS; rw [if_pos (show (false, p).1 = false ∧ n ≤ e.1 from ⟨rfl, by omega⟩), if_neg c2], fold_done l, if_neg c2]
    simp
theorem refP_put {n : Int} {o : O} {D : Dc} (hr : D.items.Pairwise fun a b => a.1 < b.1) {x : Bool × List (Int × O)} (hx : x = refP n o (decide (n < 1 ∨ 8388607 < n)) D.items) :
  (if x.1 = false then x.2 ++ [(n, o)] else x.2) = (setD n o D).items := by
 unfold setD
 by_cases c : n < 1 ∨ 8388607 < n
 ·rw [if_pos c]
  rw [decide_eq_true c] at hx
  unfold refP at hx
  rw [fold_done] at hx
  rw [hx]; simp
 ·rw [if_neg c]
  rw [decide_eq_false c] at hx
  have := fold_ins (n := n) (o := o) D.items hr []
  rw [List.nil_append] at this
  rw [hx]; exact this
theorem insI_length {n : Int} {o : O} : ∀ l : List (Int × O), (insI n o l).length ≤ l.length + 1
 | [] => by simp [insI]
 | e :: l => by
  have := insI_length (n := n) (o := o) l
  unfold insI
  split
  ·simpa using this
  ·split <;> simp
theorem insI_mem {n : Int} {o : O} : ∀ {l : List (Int × O)} {x : Int × O}, x ∈ insI n o l -> x = (n, o) ∨ x ∈ l
 | [], x, h => by simp [insI] at h; exact .inl h
 | e :: l, x, h => by
  unfold insI at h
  split at h
  ·rcases List.mem_cons.1 h with rfl | h
   ·exact .inr (List.mem_cons_self ..)
   ·rcases insI_mem h with h | h
    ·exact .inl h
    ·exact .inr (List.mem_cons_of_mem _ h)
  ·split at h
   ·rcases List.mem_cons.1 h with rfl | h
    ·exact .inl rfl
    ·exact .inr (List.mem_cons_of_mem _ h)
   ·rcases List.mem_cons.1 h with rfl | h
    ·exact .inl rfl
    ·exact .inr h
theorem insI_rises {n : Int} {o : O} : ∀ {l : List (Int × O)}, l.Pairwise (fun a b => a.1 < b.1) -> (insI n o l).Pairwise fun a b => a.1 < b.1
 | [], _ => by simp [insI]
 | e :: l, h => by
  obtain ⟨h1, h2⟩ := List.pairwise_cons.1 h
  unfold insI
  split
  ·rename_i c
   refine List.pairwise_cons.2 ⟨fun x hx => ?_, insI_rises h2⟩
   rcases insI_mem hx with rfl | hx
   ·exact c
   ·exact h1 x hx
  ·split
   ·rename_i c1 c
    exact List.pairwise_cons.2 ⟨fun x hx => by have := h1 x hx; show n < x.1; omega, h2⟩
   ·rename_i c1 c
    refine List.pairwise_cons.2 ⟨fun x hx => ?_, h⟩
    show n < x.1
    rcases List.mem_cons.1 hx with rfl | hx
    ·omega
    ·have := h1 x hx; omega
theorem insI_find {n : Int} {o : O} : ∀ {l : List (Int × O)}, findD (insI n o l) n = (o, true)
 | [] => by simp [insI, findD]
 | e :: l => by
  have ih := insI_find (n := n) (o := o) (l := l)
  unfold insI
  split
  ·rename_i c
   unfold findD at ih ⊢
   rw [List.find?_cons_of_neg (by simp; omega)]
   exact ih
  ·split <;> simp [findD]
end Go.Cl