/-
 Objects: what they are, and how they stand in memory.
-/
import Derived.Test.YthlbahnfimigcaaLow
namespace Go.Cl
inductive O where
 | mk (kind n : Int) (b : List UInt8) (l : List O) (d : List (List UInt8 × O))
namespace O
def kind : O -> Int
 | .mk k _ _ _ _ => k
def num : O -> Int
 | .mk _ n _ _ _ => n
def bytes : O -> List UInt8
 | .mk _ _ b _ _ => b
def items : O -> List O
 | .mk _ _ _ l _ => l
def ents : O -> List (List UInt8 × O)
 | .mk _ _ _ _ d => d
def none : O := .mk 0 0 [] [] []
theorem items_lt {k n : Int} {b : List UInt8} {l : List O} {d : List (List UInt8 × O)} {x : O} (h : x ∈ l) : SizeOf.sizeOf x < SizeOf.sizeOf (O.mk k n b l d) := by
 have := List.sizeOf_lt_of_mem h
 simp only [O.mk.sizeOf_spec]; omega
theorem ents_lt {k n : Int} {b : List UInt8} {l : List O} {d : List (List UInt8 × O)} {e : List UInt8 × O} (h : e ∈ d) : SizeOf.sizeOf e.2 < SizeOf.sizeOf (O.mk k n b l d) := by
 have h1 := List.sizeOf_lt_of_mem h
 obtain ⟨a, x⟩ := e
 simp only [Prod.mk.sizeOf_spec] at h1
 simp only [O.mk.sizeOf_spec]; omega
end O
def Foot (F : Nat -> Prop) : Value -> Prop
 | .slice (some a) _ c => c ≠ 0 -> F a.block
 | _ => True
theorem Foot.mono {F G : Nat -> Prop} {v : Value} (h : Foot F v) (k : ∀ j, F j -> G j) : Foot G v := by
 unfold Foot at *
 split
 ·exact fun hc => k _ (h hc)
 ·trivial
theorem Foot.of_id {F : Nat -> Prop} {v : Value} (h : ∀ j, idOf v = some j -> F j) : Foot F v := by
 unfold Foot
 split
 ·exact fun _ => h _ rfl
 ·trivial
theorem Foot.fresh {base : Nat} {v : Value} (h : Fresh base v) : Foot (fun j => base ≤ j) v := Foot.of_id h
theorem Foot.nil (F : Nat -> Prop) : Foot F (.slice none 0 0) := trivial
theorem Sees.turnsF {F : Nat -> Prop} {s s' : ASt} {z : Nat} {v u : Value} {n : Nat} {l : List Value} (h : Sees s z v n l) (hf : Foot F v) (k : Turns u s s') (hne : ∀ j, F j -> idOf u ≠ some j) : Sees s' z v n l := by
 cases h with
 | nil => exact .nil
 | bare i off => exact .bare i off
 | of i off n c b l hi hb hz hl hc hlen hoff ht =>
  have hF : F i := hf (by omega)
  refine .of i off n c b l (Nat.lt_of_lt_of_le hi k.next) ?_ hz hl hc hlen hoff ht
  simp only [ASt.blk?, k.get i hi (hne i hF)]; exact hb
inductive OIs (F : Nat -> Prop) (s : ASt) : List Value -> O -> Prop
 | mk (kind n : Int) (b : List UInt8) (l : List O) (d : List (List UInt8 × O)) (bv lv dv : Value) (lc dc : List Value)
   (hb : Sees s 1 bv b.length (ofBytes b)) (hl : Sees s 5 lv l.length lc) (hd : Sees s 6 dv d.length dc)
   (fb : Foot F bv) (fl : Foot F lv) (fd : Foot F dv)
   (hL : ∀ i (h : i < l.length), OIs F s ((lc.drop (i * 5)).take 5) l[i])
   (hK : ∀ i (h : i < d.length), dc.getD (i * 6) undef = .string ⟨(d[i].1).toArray⟩)
   (hD : ∀ i (h : i < d.length), OIs F s ((dc.drop (i * 6 + 1)).take 5) d[i].2)
   (hM : ∀ i (h : i < d.length), (d[i].1).length ≤ 9223372036854775807) :
   OIs F s [.int .i64 kind, .int .i64 n, bv, lv, dv] (.mk kind n b l d)
variable {F G : Nat -> Prop} {s s' : ASt} {cs : List Value} {o : O}
theorem OIs.keeps (h : OIs F s cs o) (k : Stay s.next s s') : OIs F s' cs o := by
 induction h with
 | mk kind n b l d bv lv dv lc dc hb hl hd fb fl fd _ hK _ hM hL hD => exact .mk kind n b l d bv lv dv lc dc (hb.keeps k) (hl.keeps k) (hd.keeps k) fb fl fd hL hK hD hM
theorem OIs.mono (h : OIs F s cs o) (k : ∀ j, F j -> G j) : OIs G s cs o := by
 induction h with
 | mk kind n b l d bv lv dv lc dc hb hl hd fb fl fd _ hK _ hM hL hD => exact .mk kind n b l d bv lv dv lc dc hb hl hd (fb.mono k) (fl.mono k) (fd.mono k) hL hK hD hM
theorem OIs.turns {u : Value} (h : OIs F s cs o) (k : Turns u s s') (hne : ∀ j, F j -> idOf u ≠ some j) : OIs F s' cs o := by
 induction h with
 | mk kind n b l d bv lv dv lc dc hb hl hd fb fl fd _ hK _ hM hL hD => exact .mk kind n b l d bv lv dv lc dc (hb.turnsF fb k hne) (hl.turnsF fl k hne) (hd.turnsF fd k hne) fb fl fd hL hK hD hM
theorem OIs.len (h : OIs F s cs o) : cs.length = 5 := by cases h; rfl
theorem OIs.ok (h : OIs F s cs o) : cs.all okCell = true := by
 cases h with
 | mk kind n b l d bv lv dv lc dc hb hl hd fb fl fd hL hK hD hM =>
  have h1 := hb.okCell
  have h2 := hl.okCell
  have h3 := hd.okCell
  simp only [List.all_cons, List.all_nil, h1, h2, h3]; rfl
theorem valEq_agg5 {a b c d e : Value} (h1 : valEq1 a a = true) (h2 : valEq1 b b = true) (h3 : valEq1 c c = true) (h4 : valEq1 d d = true) (h5 : valEq1 e e = true) : valEq (.agg #[a, b, c, d, e]) (.agg #[a, b, c, d, e]) = true := by
 simp [valEq, valEqL, h1, h2, h3, h4, h5]
theorem Sees.self1 {s : ASt} {z : Nat} {v : Value} {n : Nat} {l : List Value} (h : Sees s z v n l) : valEq1 v v = true := by
 cases h <;> simp [valEq1, Nat.beq_refl]
theorem OIs.self (h : OIs F s cs o) : valEq (.agg cs.toArray) (.agg cs.toArray) = true := by
 cases h with
 | mk kind n b l d bv lv dv lc dc hb hl hd fb fl fd hL hK hD hM =>
  exact valEq_agg5 (by simp [valEq1]) (by simp [valEq1]) hb.self1 hl.self1 hd.self1
theorem OIs.inv {kind n : Int} {b : List UInt8} {l : List O} {d : List (List UInt8 × O)} (h : OIs F s cs (.mk kind n b l d)) : ∃ bv lv dv lc dc, cs = [.int .i64 kind, .int .i64 n, bv, lv, dv] ∧ Sees s 1 bv b.length (ofBytes b) ∧ Sees s 5 lv l.length lc ∧ Sees s 6 dv d.length dc ∧ Foot F bv ∧ Foot F lv ∧ Foot F dv ∧
  (∀ i (h : i < l.length), OIs F s ((lc.drop (i * 5)).take 5) l[i]) ∧ (∀ i (h : i < d.length), dc.getD (i * 6) undef = .string ⟨(d[i].1).toArray⟩) ∧ (∀ i (h : i < d.length), OIs F s ((dc.drop (i * 6 + 1)).take 5) d[i].2) ∧ (∀ i (h : i < d.length), (d[i].1).length ≤ 9223372036854775807) := by
 cases h with
 | mk _ _ _ _ _ bv lv dv lc dc hb hl hd fb fl fd hL hK hD hM => exact ⟨bv, lv, dv, lc, dc, rfl, hb, hl, hd, fb, fl, fd, hL, hK, hD, hM⟩
def noneC : List Value := [.int .i64 0, .int .i64 0, .slice Option.none 0 0, .slice Option.none 0 0, .slice Option.none 0 0]
theorem OIs.none (F : Nat -> Prop) (s : ASt) : OIs F s noneC O.none :=
 .mk 0 0 [] [] [] _ _ _ [] [] .nil .nil .nil trivial trivial trivial (fun i h => absurd h (Nat.not_lt_zero i)) (fun i h => absurd h (Nat.not_lt_zero i)) (fun i h => absurd h (Nat.not_lt_zero i)) (fun i h => absurd h (Nat.not_lt_zero i))
theorem Foot.below {z : Nat} {v : Value} {n : Nat} {l : List Value} (h : Sees s z v n l) (hf : Foot F v) : Foot (fun j => F j ∧ j < s.next) v := by
 cases h with
 | nil => trivial
 | bare i off => exact fun hc => absurd rfl hc
 | of i off n c b l hi hb hz hl hc hlen hoff ht => exact fun hc0 => ⟨hf hc0, hi⟩
theorem OIs.lows (h : OIs F s cs o) : OIs (fun j => F j ∧ j < s.next) s cs o := by
 induction h with
 | mk kind n b l d bv lv dv lc dc hb hl hd fb fl fd _ hK _ hM hL hD => exact .mk kind n b l d bv lv dv lc dc hb hl hd (Foot.below hb fb) (Foot.below hl fl) (Foot.below hd fd) hL hK hD hM
structure Rowed {α : Type} (Q : (Nat -> Prop) -> ASt -> List Value -> α -> Prop) : Prop where
 keeps : ∀ {F s s' cs d}, Q F s cs d -> Stay s.next s s' -> Q F s' cs d
 mono : ∀ {F G : Nat -> Prop} {s cs d}, Q F s cs d -> (∀ j, F j -> G j) -> Q G s cs d
 turns : ∀ {F : Nat -> Prop} {s s' cs d u}, Q F s cs d -> Turns u s s' -> (∀ j, F j -> idOf u ≠ some j) -> Q F s' cs d
 below : ∀ {F : Nat -> Prop} {s cs d}, Q F s cs d -> Q (fun j => F j ∧ j < s.next) s cs d
theorem rowedO : Rowed OIs := ⟨fun h k => h.keeps k, fun h k => h.mono k, fun h k n => h.turns k n, fun h => h.lows⟩
def EntIs (F : Nat -> Prop) (s : ASt) (cs : List Value) (e : List UInt8 × O) : Prop := ∃ r, cs = .string ⟨e.1.toArray⟩ :: r ∧ OIs F s r e.2 ∧ e.1.length ≤ 9223372036854775807
theorem EntIs.keeps {e : List UInt8 × O} (h : EntIs F s cs e) (k : Stay s.next s s') : EntIs F s' cs e := by
 obtain ⟨r, h1, h2, h3⟩ := h; exact ⟨r, h1, h2.keeps k, h3⟩
theorem EntIs.mono {e : List UInt8 × O} (h : EntIs F s cs e) (k : ∀ j, F j -> G j) : EntIs G s cs e := by
 obtain ⟨r, h1, h2, h3⟩ := h; exact ⟨r, h1, h2.mono k, h3⟩
theorem rowedE : Rowed EntIs := ⟨fun h k => h.keeps k, fun h k => h.mono k, fun ⟨r, h1, h2, h3⟩ k n => ⟨r, h1, h2.turns k n, h3⟩, fun ⟨r, h1, h2, h3⟩ => ⟨r, h1, h2.lows, h3⟩⟩
structure ORows {α : Type} (Q : (Nat -> Prop) -> ASt -> List Value -> α -> Prop) (z : Nat) (F : Nat -> Prop) (s : ASt) (D : List α) (lc : List Value) : Prop where
 len : lc.length = D.length * z
 row : ∀ i (h : i < D.length), Q F s ((lc.drop (i * z)).take z) D[i]
section
variable {α : Type} {Q : (Nat -> Prop) -> ASt -> List Value -> α -> Prop} {z : Nat} {D : List α} {lc : List Value}
theorem ORows.nil : ORows Q z F s [] [] := ⟨by simp, fun i h => absurd h (Nat.not_lt_zero i)⟩
theorem ORows.keeps (hQ : Rowed Q) (h : ORows Q z F s D lc) (k : Stay s.next s s') : ORows Q z F s' D lc := ⟨h.len, fun i hi => hQ.keeps (h.row i hi) k⟩
theorem ORows.mono (hQ : Rowed Q) (h : ORows Q z F s D lc) (k : ∀ j, F j -> G j) : ORows Q z G s D lc := ⟨h.len, fun i hi => hQ.mono (h.row i hi) k⟩
theorem ORows.turns {u : Value} (hQ : Rowed Q) (h : ORows Q z F s D lc) (k : Turns u s s') (hne : ∀ j, F j -> idOf u ≠ some j) : ORows Q z F s' D lc := ⟨h.len, fun i hi => hQ.turns (h.row i hi) k hne⟩
theorem ORows.below (hQ : Rowed Q) (h : ORows Q z F s D lc) : ORows Q z (fun j => F j ∧ j < s.next) s D lc := ⟨h.len, fun i hi => hQ.below (h.row i hi)⟩
theorem ORows.snoc (h : ORows Q z F s D lc) {d : α} {cs : List Value} (hc : cs.length = z) (hd : Q F s cs d) : ORows Q z F s (D ++ [d]) (lc ++ cs) := by
 refine ⟨by rw [List.length_append, List.length_append, h.len, hc, List.length_singleton, Nat.succ_mul], fun i hi => ?_⟩
 have hi' : i < D.length + 1 := by simpa using hi
 by_cases hik : i < D.length
 ·have e : ((lc ++ cs).drop (i * z)).take z = (lc.drop (i * z)).take z := by
   have : (i + 1) * z ≤ lc.length := by rw [h.len]; exact Nat.mul_le_mul_right z hik
   rw [Nat.succ_mul] at this
   rw [List.drop_append_of_le_length (by omega), List.take_append_of_le_length (by rw [List.length_drop]; omega)]
  rw [e, List.getElem_append_left hik]
  exact h.row i hik
 ·obtain rfl : i = D.length := by omega
  have e : ((lc ++ cs).drop (D.length * z)).take z = cs := by rw [← h.len, List.drop_left, List.take_of_length_le (by omega)]
  rw [e, List.getElem_append_right (by omega)]
  simp only [Nat.sub_self, List.getElem_cons_zero]
  exact hd
theorem ORows.grow (hQ : Rowed Q) {base : Nat} {X : Nat -> Prop} {T T' : ASt} {v x' : Value} (h : ORows Q z (fun j => base ≤ j ∧ ¬ X j ∧ idOf v ≠ some j) T D lc) {d : α} {cs : List Value} (hc : cs.length = z) (hd : Q (fun j => base ≤ j ∧ ¬ X j ∧ idOf v ≠ some j) T cs d)
  (ht : Turns v T T') (hor : idOf x' = idOf v ∨ ∃ i, idOf x' = some i ∧ T.next ≤ i) : ORows Q z (fun j => base ≤ j ∧ ¬ X j ∧ idOf x' ≠ some j) T' (D ++ [d]) (lc ++ cs) := by
 refine ORows.mono hQ (ORows.turns hQ (ORows.below hQ (h.snoc hc hd)) ht (fun j hj => hj.1.2.2)) (fun j hj => ⟨hj.1.1, hj.1.2.1, fun e => ?_⟩)
 rcases hor with h1 | ⟨i, h1, h2⟩
 ·exact hj.1.2.2 (by rw [← h1]; exact e)
 ·rw [h1] at e; injection e with e; have := hj.2; omega
end
theorem OIs.parts {kind n : Int} {b : List UInt8} {l : List O} {d : List (List UInt8 × O)} (h : OIs F s cs (.mk kind n b l d)) : ∃ bv lv dv lc dc, cs = [.int .i64 kind, .int .i64 n, bv, lv, dv] ∧ Sees s 1 bv b.length (ofBytes b) ∧ Sees s 5 lv l.length lc ∧ Sees s 6 dv d.length dc ∧ Foot F bv ∧ Foot F lv ∧ Foot F dv ∧ ORows OIs 5 F s l lc ∧ ORows EntIs 6 F s d dc := by
 obtain ⟨bv, lv, dv, lc, dc, h1, h2, h3, h4, h5, h6, h7, hL, hK, hD, hM⟩ := h.inv
 refine ⟨bv, lv, dv, lc, dc, h1, h2, h3, h4, h5, h6, h7, ⟨h3.length, hL⟩, ⟨h4.length, fun i hi => ⟨_, ?_, hD i hi, hM i hi⟩⟩⟩
 have hk := hK i hi
 have hlt : i * 6 < dc.length := by rw [h4.length]; omega
 rw [List.getD_eq_getElem?_getD, List.getElem?_eq_getElem hlt] at hk
 have hk : dc[i * 6] = .string ⟨(d[i].1).toArray⟩ := hk
 rw [List.drop_eq_getElem_cons hlt, List.take_succ_cons, hk]
theorem OIs.whole {kind n : Int} {b : List UInt8} {l : List O} {d : List (List UInt8 × O)} {bv lv dv : Value} {lc dc : List Value} (hb : Sees s 1 bv b.length (ofBytes b)) (hl : Sees s 5 lv l.length lc) (hd : Sees s 6 dv d.length dc) (fb : Foot F bv) (fl : Foot F lv) (fd : Foot F dv) (hL : ORows OIs 5 F s l lc) (hD : ORows EntIs 6 F s d dc) :
  OIs F s [.int .i64 kind, .int .i64 n, bv, lv, dv] (.mk kind n b l d) := by
 refine .mk kind n b l d bv lv dv lc dc hb hl hd fb fl fd hL.row (fun i hi => ?_) (fun i hi => ?_) (fun i hi => ?_)
 ·obtain ⟨r, h1, _, _⟩ := hD.row i hi
  have h0 : ((dc.drop (i * 6)).take 6)[0]? = some (.string ⟨(d[i].1).toArray⟩) := by rw [h1]; rfl
  rw [List.getElem?_take_of_lt (by omega), List.getElem?_drop, Nat.add_zero] at h0
  rw [List.getD_eq_getElem?_getD, h0]; rfl
 ·obtain ⟨r, h1, h2, _⟩ := hD.row i hi
  have h0 : ((dc.drop (i * 6)).take 6).drop 1 = r := by rw [h1]; rfl
  rw [List.drop_take, List.drop_drop] at h0
  rw [show (dc.drop (i * 6 + 1)).take 5 = r from h0]; exact h2
 ·obtain ⟨_, _, _, h3⟩ := hD.row i hi
  exact h3
theorem Sees.loadPart {P : Program} {e : TypeId} {m : Nat} (hag : isAggB P e = some true) (hsz : sizeB P e = some m) {z : Nat} {v : Value} {n : Nat} {l : List Value} (h : Sees s z v n l) {k j : Nat} (hk : k < n) (hj : j + m ≤ z) : loadA P s e (plusPtr (elemPtr z v k) j) = some (.agg ((l.drop (k * z + j)).take m).toArray) := by
 cases h with
 | nil => omega
 | bare => omega
 | of i off n c b l hi hb hz hl hc hlen hoff ht =>
  have hkz : k * z + z ≤ n * z := by
   have : (k + 1) * z ≤ n * z := Nat.mul_le_mul_right z hk
   rwa [Nat.succ_mul] at this
  show loadA P s e (.pointer (some ⟨i, off + k * z + j, some c⟩)) = _
  unfold loadA
  simp only [hag, hsz]
  rw [cellsAt_eq hb hl hc (by omega), ← ht, List.drop_take, List.drop_drop, List.take_take, Nat.min_eq_left (by omega), Nat.add_assoc]
inductive Small : O -> Prop
 | mk {k n : Int} {b : List UInt8} {l : List O} {d : List (List UInt8 × O)} (hb : b.length ≤ 100000000) (hl : l.length ≤ 100000) (hd : d.length ≤ 100000) (hK : ∀ e ∈ d, e.1.length ≤ 100000) (hL : ∀ x ∈ l, Small x) (hD : ∀ e ∈ d, Small e.2) : Small (.mk k n b l d)
inductive Fit : O -> Prop
 | mk {k n : Int} {b : List UInt8} {l : List O} {d : List (List UInt8 × O)} (hb : b.length ≤ 140737488351232) (hl : l.length * 88 ≤ 140737488351232) (hd : d.length * 104 ≤ 140737488351232) (hK : ∀ e ∈ d, e.1.length ≤ 140737488351232) (hL : ∀ x ∈ l, Fit x) (hD : ∀ e ∈ d, Fit e.2) : Fit (.mk k n b l d)
theorem Small.fit {o : O} (h : Small o) : Fit o := by
 induction h with
 | mk hb hl hd hK _ _ ihL ihD => exact .mk (by omega) (by omega) (by omega) (fun e he => Nat.le_trans (hK e he) (by decide)) ihL ihD
def Tells (p : Prop) (v : Value) : Prop := ∃ b : Bool, v = .bool b ∧ (b = true -> p)
theorem small_take {l : List O} {i : Nat} (h : ∀ x ∈ l.take i, Small x) (hi : i < l.length) (hx : Small l[i]) : ∀ x ∈ l.take (i + 1), Small x := by
 intro x hm
 rw [List.take_add_one, List.getElem?_eq_getElem hi, List.mem_append] at hm
 rcases hm with hm | hm
 ·exact h x hm
 ·simp at hm; rw [hm]; exact hx
end Go.Cl