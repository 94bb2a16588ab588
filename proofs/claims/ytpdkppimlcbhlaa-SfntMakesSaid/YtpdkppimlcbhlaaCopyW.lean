/-
  The clean machine: copy into what is one's own; append of so many noughts; a slice cut to its length.
-/
import Derived.Test.YtpdkppimlcbhlaaAgg
namespace Go.Cl
/-- append, of whatever stands for so many elements. -/
theorem Own.appendS {P : Program} {st xt e : TypeId} {xd : TypeDesc} {z by8 : Nat} {zv : Value} (hu : P.underlying st = some (.slice e)) (hux : P.underlying xt = some xd) (hxd : ∃ k, xd = .int k) (hsz : sizeB P e = some z) (hby : bytesB P e = some by8) (hzv : zeroB P e = some zv) (hzl : Nat.beq zv.cells.toList.length z = true)
    {s : ASt} {x y : Value} {n m : Nat} {l new : List Value} (hx : Own s z x n l) (hy : srcA s z by8 zv xd y = some (m, new)) (hnew : new.length = m * z) (hz0 : 0 < z) (hok : new.all okCell = true) (hb1 : (n + m) * by8 ≤ 4294967296) (hb2 : n + m ≤ 4294967296) :
    ∃ x' s', appendA P s st xt x y = some (x', s') ∧ Own s' z x' (n + m) (l ++ new) ∧ Turns x s s' ∧ (idOf x' = idOf x ∨ ∃ i, idOf x' = some i ∧ s.next ≤ i) := by
  obtain ⟨k0, rfl⟩ := hxd
  have hcond : (Nat.ble ((n + m) * by8) 4294967296 && Nat.ble (n + m) 4294967296 && Nat.blt 0 z && new.all okCell && Nat.beq zv.cells.toList.length z) = true := by
    simp only [Bool.and_eq_true, Nat.ble_eq, Nat.blt_eq]; exact ⟨⟨⟨⟨hb1, hb2⟩, hz0⟩, hok⟩, hzl⟩
  cases m with
  | zero =>
    have hn : new = [] := List.eq_nil_of_length_eq_zero (by simpa using hnew)
    subst hn
    refine ⟨x, s, ?_, by simpa using hx, ⟨Nat.le_refl _, fun _ _ _ => rfl⟩, .inl rfl⟩
    unfold appendA
    simp only [hu, hux, hsz, hby, hzv, hy]
    cases hx <;> simp only [hcond, if_true]
  | succ m =>
    cases hx with
    | nil =>
      obtain ⟨h1, h2⟩ := Own.new (s := s) hnew
      refine ⟨_, _, ?_, by simpa using h2, ⟨by rw [next_new]; omega, fun i hi _ => (Stay.new s _).get i hi⟩, .inr ⟨s.next, rfl, Nat.le_refl _⟩⟩
      unfold appendA
      simp only [hu, hux, hsz, hby, hzv, hy, hcond, if_true, h1]
      simp
    | of i n low l hi hb hl hlen =>
      have hc1 : (true && Nat.ble low (l.length + 1) && Nat.beq z z) = true := by simp [hl]
      have hc2 : (Nat.beq (l.length + 1) (l.length + 1) && Nat.beq 0 0 && Nat.beq (n * z) l.length) = true := by simp [hlen]
      refine ⟨.slice (some ⟨i, 0, none⟩) (n + (m + 1)) ((l ++ new).length + 1), s.put i (.blk ⟨l ++ new, low, true, z⟩), ?_, ?_, ⟨by simp [ASt.put], fun j _ hj => ?_⟩, .inl rfl⟩
      · unfold appendA
        simp only [hu, hux, hsz, hby, hzv, hy, hcond, if_true, hb, hc1, hc2]
      · refine .of i _ low _ (by simpa [ASt.put] using hi) (by rw [ASt.blk?_put_self _ _ _ (by omega)]) (by rw [List.length_append]; omega) (by rw [List.length_append, hlen, hnew, Nat.add_mul n (m + 1) z])
      · rw [ASt.get_put_ne]
        intro e; subst e; exact hj rfl
/-- append of so many noughts. -/
theorem wstep_appendZ {P : Program} {lib : Prims} {all r : List Oper} {f : AFr} {s : ASt} {d : Option Tmp} {Q : AFr → ASt → Prop} {st xt e : TypeId} {k0 k : IntKind} {by8 : Nat} {zv : Value} (hu : P.underlying st = some (.slice e)) (hux : P.underlying xt = some (.int k0)) (hsz : sizeB P e = some 1) (hby : bytesB P e = some by8) (hzv : zeroB P e = some zv) (hpl : plainV zv = true) (hzl : zv.cells.toList = [zv]) (hzo : okCell zv = true)
    {x : Value} {n m : Nat} {l : List Value} (hx : Own s 1 x n l) (hb1 : (n + m) * by8 ≤ 4294967296) (hb2 : n + m ≤ 4294967296) {base : Nat} (hF : Fresh base x) (hB : base ≤ s.next)
    (K : ∀ x' s', Own s' 1 x' (n + m) (l ++ List.replicate m zv) → Fresh base x' → Stay base s s' → Turns x s s' → (idOf x' = idOf x ∨ ∃ i, idOf x' = some i ∧ s.next ≤ i) → wstep P lib all r f s d Q (some (.val x' s'))) : wstep P lib all r f s d Q (pOf (appendA P s st xt x (.int k (m : Nat)))) := by
  have hm : m * by8 ≤ 4294967296 := Nat.le_trans (Nat.mul_le_mul_right _ (by omega)) hb1
  have hy : srcA s 1 by8 zv (.int k0) (.int k (m : Nat)) = some (m, List.replicate m zv) := by
    show (if Nat.ble (m * by8) 4294967296 && Nat.ble m 4294967296 && plainV zv && Nat.beq zv.cells.toList.length 1 && Nat.blt 0 1 then some (m, repeatL zv.cells.toList m) else none) = _
    have : (Nat.ble (m * by8) 4294967296 && Nat.ble m 4294967296 && plainV zv && Nat.beq zv.cells.toList.length 1 && Nat.blt 0 1) = true := by
      rw [hpl, hzl]; simp only [Bool.and_eq_true, Nat.ble_eq]; exact ⟨⟨⟨⟨hm, by omega⟩, trivial⟩, rfl⟩, rfl⟩
    rw [if_pos this, hzl, repeatL_one]
  obtain ⟨x', s', h1, h2, h3, h4⟩ := Own.appendS hu hux ⟨_, rfl⟩ hsz hby hzv (by rw [hzl]; rfl) hx hy (by simp) (by decide) (by simp [hzo]) hb1 hb2
  rw [h1, pOf_some]
  refine K _ _ h2 (fun i hi => ?_) (h3.keeps hF hB) h3 h4
  rcases h4 with h4 | ⟨j, hj, hl⟩
  · exact hF i (by rw [← h4]; exact hi)
  · rw [hj] at hi; injection hi with hi; omega

/-- What room is there to copy into: one's own, or none. -/
def Room (s : ASt) (v : Value) (n : Nat) (l : List Value) : Prop := Own s 1 v n l ∨ (n = 0 ∧ l = [] ∧ ∃ i off, v = .slice (some ⟨i, off, none⟩) 0 0)
theorem Own.room {s : ASt} {v : Value} {n : Nat} {l : List Value} (h : Own s 1 v n l) : Room s v n l := .inl h
theorem Room.sees {s : ASt} {v : Value} {n : Nat} {l : List Value} (h : Room s v n l) : Sees s 1 v n l := by
  rcases h with h | ⟨rfl, rfl, i, off, rfl⟩
  · exact h.sees
  · exact .bare i off
theorem Room.own {s : ASt} {v : Value} {n : Nat} {l : List Value} (h : Room s v n l) (hn : 0 < n) : Own s 1 v n l := by
  rcases h with h | ⟨h, _⟩
  · exact h
  · omega
theorem Room.keeps {s s' : ASt} {v : Value} {n : Nat} {l : List Value} (h : Room s v n l) (k : Stay s.next s s') : Room s' v n l := by
  rcases h with h | h
  · exact .inl (h.keeps k)
  · exact .inr h
theorem over_nil (l : List Value) (off : Nat) : over l off [] = l := by unfold over; simp
theorem over_mid {a b c : List Value} {off : Nat} (h : off = a.length) : over (a ++ c) off b = a ++ b ++ c.drop b.length := by
  subst h
  unfold over
  rw [List.take_left, ← List.drop_drop, List.drop_left]
theorem Room.copyS {P : Program} {t e : TypeId} (hu : P.underlying t = some (.slice e)) (hsz : sizeB P e = some 1) {s : ASt} {v : Value} {n : Nat} {l : List Value} (h : Room s v n l) {lo : Nat} (hlo : lo ≤ n) {y y2 : Value} {k : Nat} {new : List Value}
    (hc : cutSrc (n - lo) y = some (k, y2)) (hs : k ≠ 0 → srcCells s 1 y2 = some (k, new)) (hk : new.length = k) (hkn : k ≤ n - lo) (hok : new.all okCell = true) :
    ∃ s', copyA P s t (cutS 1 v lo n) y = some (.int .i64 k, s') ∧ Room s' v n (over l lo new) ∧ Turns v s s' ∧ s'.next = s.next := by
  have hzero : k = 0 → ∀ a c, copyA P s t (.slice a (n - lo) c) y = some (.int .i64 k, s) := by
    intro h0 a c
    subst h0
    unfold copyA
    simp only [hu, hsz, hc]; rfl
  rcases h with h | ⟨rfl, rfl, i, off, rfl⟩
  · cases h with
    | nil =>
      obtain rfl : k = 0 := by omega
      obtain rfl : new = [] := List.eq_nil_of_length_eq_zero hk
      obtain rfl : lo = 0 := by omega
      refine ⟨s, hzero rfl none 0, ?_, ⟨Nat.le_refl _, fun _ _ _ => rfl⟩, rfl⟩
      rw [over_nil]; exact .inl .nil
    | of i n low l hi hb hl hlen =>
      have hlen' : l.length = n := by omega
      cases k with
      | zero =>
        obtain rfl : new = [] := List.eq_nil_of_length_eq_zero hk
        refine ⟨s, hzero rfl _ _, ?_, ⟨Nat.le_refl _, fun _ _ _ => rfl⟩, rfl⟩
        rw [over_nil]; exact .inl (.of i n low l hi hb hl hlen)
      | succ k =>
        have hol : (over l lo new).length = l.length := over_length (by omega)
        have hset : setAt l (0 + lo * 1) new = some (over l lo new) := by
          rw [show 0 + lo * 1 = lo by omega]; exact setAt_eq _ _ _ (by omega)
        have hst : s.storeAt i (0 + lo * 1) (l.length + 1) new = some (s.put i (.blk ⟨over l lo new, l.length + 1, true, 1⟩)) := by
          unfold ASt.storeAt
          have hcond : (true && Nat.ble low (l.length + 1) && Nat.beq (l.length + 1) (l.length + 1) && new.all okCell) = true := by
            simp only [hok, Bool.and_true, Bool.true_and, Bool.and_eq_true, Nat.ble_eq, Nat.beq_eq]; exact ⟨hl, trivial⟩
          rw [hb]
          simp only [hcond, if_true]
          cases new with
          | nil => simp at hk
          | cons a w => simp only [hset]
        refine ⟨s.put i (.blk ⟨over l lo new, l.length + 1, true, 1⟩), ?_, .inl ?_, ⟨by simp [ASt.put], fun j _ hj => ?_⟩, rfl⟩
        · unfold copyA
          simp only [hu, hsz, cutS, hc, hs (by omega), hst, Nat.beq_refl]
        · have := Own.of (s := s.put i (.blk ⟨over l lo new, l.length + 1, true, 1⟩)) (z := 1) i n (l.length + 1) (over l lo new) (by simpa [ASt.put] using hi) (ASt.blk?_put_self _ _ _ (by omega)) (by omega) (by omega)
          rw [hol] at this
          exact this
        · rw [ASt.get_put_ne]
          intro e; subst e; exact hj rfl
  · obtain rfl : k = 0 := by omega
    obtain rfl : new = [] := List.eq_nil_of_length_eq_zero hk
    obtain rfl : lo = 0 := by omega
    refine ⟨s, ?_, .inr ⟨rfl, rfl, i, off, rfl⟩, ⟨Nat.le_refl _, fun _ _ _ => rfl⟩, rfl⟩
    exact hzero rfl (some ⟨i, off + 0 * 1, none⟩) 0
theorem cutS_all {s : ASt} {v : Value} {n : Nat} {l : List Value} (h : Room s v n l) : cutS 1 v 0 n = v := by
  rcases h with h | ⟨rfl, rfl, i, off, rfl⟩
  · cases h <;> simp [cutS]
  · simp [cutS]
theorem Sees.cutSrc {s : ASt} {y : Value} {m : Nat} {new : List Value} (h : Sees s 1 y m new) (r : Nat) : ∃ y2, Cl.cutSrc r y = some (min m r, y2) ∧ srcCells s 1 y2 = some (min m r, new.take (min m r)) := by
  have hl := h.length
  have hcut := (h.cut (lo := 0) (hi := min m r) (by omega) (by omega)).src
  rw [Nat.zero_mul, List.drop_zero, Nat.sub_zero, Nat.mul_one] at hcut
  cases h with
  | nil => exact ⟨.slice none (min 0 r) 0, rfl, by simpa [cutS] using hcut⟩
  | bare i off => exact ⟨.slice (some ⟨i, off, none⟩) (min 0 r) 0, rfl, by simpa [cutS] using hcut⟩
  | of i off n c b l hi hb hz hl hc hlen hoff ht => exact ⟨.slice (some ⟨i, off, none⟩) (min m r) c, rfl, by simpa [cutS] using hcut⟩
theorem text_cutSrc (s : ASt) (a : List UInt8) (r : Nat) : ∃ y2, Cl.cutSrc r (.string ⟨a.toArray⟩) = some (min a.length r, y2) ∧ srcCells s 1 y2 = some (min a.length r, (ofBytes a).take (min a.length r)) := by
  refine ⟨.string ⟨(a.take r).toArray⟩, rfl, ?_⟩
  have h1 : (a.take r).length = min a.length r := by rw [List.length_take]; omega
  have h2 : a.take r = a.take (min a.length r) := by
    rcases Nat.le_total r a.length with h | h
    · rw [Nat.min_eq_right h]
    · rw [Nat.min_eq_left h, List.take_of_length_le h, List.take_of_length_le (Nat.le_refl _)]
  show (if Nat.beq 1 1 then some ((a.take r).length, ofBytes (a.take r)) else none) = _
  rw [if_pos (show Nat.beq 1 1 = true from rfl), h1, h2, ofBytes_take]
theorem Room.slice {P : Program} {t e : TypeId} (hu : P.underlying t = some (.slice e)) (hsz : sizeB P e = some 1) {s : ASt} {v : Value} {n : Nat} {l : List Value} (h : Room s v n l) {k : IntKind} {x : Int} (h0 : 0 ≤ x) (h2 : x ≤ n) : sliceA P s t v (some (.int k x)) none none = some (cutS 1 v x.toNat n) := h.sees.sliceLow hu hsz h0 h2
/-- A slice cut to its length, with no more room. -/
theorem Own.tight {P : Program} {t e : TypeId} (hu : P.underlying t = some (.slice e)) (hsz : sizeB P e = some 1) {s : ASt} {v : Value} {n : Nat} {l : List Value} (h : Own s 1 v n l) {k k2 : IntKind} : ∃ v', sliceA P s t v none (some (.int k (n : Nat))) (some (.int k2 (n : Nat))) = some v' ∧ Room s v' n l ∧ (0 < n → v' = v) ∧ (∀ i, idOf v' = some i → idOf v = some i) := by
  have hn1 : ∀ k d, natOf (some (.int k ((n : Nat) : Int))) d = some n := fun _ _ => rfl
  cases h with
  | nil =>
    refine ⟨.slice none 0 0, ?_, .inl .nil, fun h => (by omega), fun i h => h⟩
    unfold sliceA; rw [hu]; simp [natOf, hsz]
  | of i n low l hi hb hl hlen =>
    have hlen' : l.length = n := by omega
    have he : eszIs s i (l.length + 1) 1 = true := by
      unfold eszIs
      split
      · rfl
      · rw [hb]; rfl
    have hle : (Nat.ble 0 n && Nat.ble n n) = true := by simp
    by_cases h0 : n = 0
    · subst h0
      refine ⟨.slice (some ⟨i, 0, none⟩) 0 0, ?_, .inr ⟨rfl, List.eq_nil_of_length_eq_zero hlen', i, 0, rfl⟩, fun h => (by omega), fun j h => h⟩
      unfold sliceA; rw [hu]; simp only [natOf_none, hn1, hsz, hle, if_true, he]; rfl
    · refine ⟨.slice (some ⟨i, 0, none⟩) n (l.length + 1), ?_, .inl (.of i n low l hi hb hl hlen), fun _ => rfl, fun j h => h⟩
      unfold sliceA; rw [hu]
      have hb0 : Nat.beq 0 n = false := by
        rw [← Bool.not_eq_true, Nat.beq_eq]; omega
      simp only [natOf_none, hn1, hsz, hle, if_true, he, hb0]
      simp
section
variable {P : Program} {lib : Prims} {all r : List Oper} {f : AFr} {s : ASt} {d : Option Tmp} {Q : AFr → ASt → Prop}
/-- copy, from a slice. -/
theorem wstep_copy {t e : TypeId} (hu : P.underlying t = some (.slice e)) (hsz : sizeB P e = some 1) {v : Value} {n : Nat} {l : List Value} (h : Room s v n l) {lo : Nat} (hlo : lo ≤ n) {y : Value} {m : Nat} {new : List Value} (hy : Sees s 1 y m new) (hok : new.all okCell = true)
    (K : ∀ s', Room s' v n (over l lo (new.take (min m (n - lo)))) → Turns v s s' → s'.next = s.next → wstep P lib all r f s d Q (some (.val (.int .i64 ((min m (n - lo) : Nat) : Int)) s'))) : wstep P lib all r f s d Q (pOf (copyA P s t (cutS 1 v lo n) y)) := by
  obtain ⟨y2, h1, h2⟩ := hy.cutSrc (n - lo)
  have hl := hy.length
  obtain ⟨s', g1, g2, g3, g4⟩ := h.copyS hu hsz hlo h1 (fun _ => h2) (by rw [List.length_take]; omega) (by omega) (by
    rw [List.all_eq_true] at hok ⊢
    exact fun x hx => hok x (List.mem_of_mem_take hx))
  rw [g1, pOf_some]
  exact K s' g2 g3 g4
/-- copy, from a text. -/
theorem wstep_copyT {t e : TypeId} (hu : P.underlying t = some (.slice e)) (hsz : sizeB P e = some 1) {v : Value} {n : Nat} {l : List Value} (h : Room s v n l) {lo : Nat} (hlo : lo ≤ n) (a : List UInt8)
    (K : ∀ s', Room s' v n (over l lo ((ofBytes a).take (min a.length (n - lo)))) → Turns v s s' → s'.next = s.next → wstep P lib all r f s d Q (some (.val (.int .i64 ((min a.length (n - lo) : Nat) : Int)) s'))) : wstep P lib all r f s d Q (pOf (copyA P s t (cutS 1 v lo n) (.string ⟨a.toArray⟩))) := by
  obtain ⟨y2, h1, h2⟩ := text_cutSrc s a (n - lo)
  obtain ⟨s', g1, g2, g3, g4⟩ := h.copyS hu hsz hlo h1 (fun _ => h2) (by rw [List.length_take, ofBytes_length]; omega) (by omega) (by
    have hok := ofBytes_ok a
    rw [List.all_eq_true] at hok ⊢
    exact fun x hx => hok x (List.mem_of_mem_take hx))
  rw [g1, pOf_some]
  exact K s' g2 g3 g4
/-- copy, from its beginning on. -/
theorem wstep_copyAll {t e : TypeId} (hu : P.underlying t = some (.slice e)) (hsz : sizeB P e = some 1) {v : Value} {n : Nat} {l : List Value} (h : Room s v n l) {y : Value} {m : Nat} {new : List Value} (hy : Sees s 1 y m new) (hok : new.all okCell = true)
    (K : ∀ s', Room s' v n (over l 0 (new.take (min m n))) → Turns v s s' → s'.next = s.next → wstep P lib all r f s d Q (some (.val (.int .i64 ((min m n : Nat) : Int)) s'))) : wstep P lib all r f s d Q (pOf (copyA P s t v y)) := by
  have := wstep_copy (lib := lib) (all := all) (r := r) (f := f) (d := d) (Q := Q) hu hsz h (Nat.zero_le n) hy hok K
  rwa [cutS_all h] at this
end
/-- A function that the model stands in for. -/
theorem Runs.prim {P : Program} {lib : Prims} {g : FuncId} {p : Prim} (h : lib.at g = some p) (hf : PrimFr p) {args : List Value} {s s' : ASt} {v : Value} {Q : Value → ASt → Prop} (hp : p args s = some (v, s')) (hq : Q v s') : Runs P lib g args s Q := by
  intro hw
  obtain ⟨_, _, _, hk⟩ := hf s s (fun _ => none) args v s' (Adds.refl s) hw hp
  refine ⟨v, s', ⟨0, fun m _ => ?_⟩, hk, hq⟩
  simp only [acall, callStep, h, hp]
/-- Nothing is copied. -/
theorem copyA_nil {P : Program} {t e : TypeId} {z : Nat} (hu : P.underlying t = some (.slice e)) (hsz : sizeB P e = some z) (s : ASt) (a : Option Addr) (n c : Nat) : copyA P s t (.slice a n c) (.slice none 0 0) = some (.int .i64 0, s) := by
  unfold copyA
  simp only [hu, hsz, Cl.cutSrc, Nat.zero_min]
end Go.Cl
