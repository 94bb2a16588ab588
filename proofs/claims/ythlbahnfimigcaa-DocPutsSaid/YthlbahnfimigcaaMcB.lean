/-
 The clean machine, second part: frames, statements whose order is open, calls.
-/
import Derived.Test.YthlbahnfimigcaaMcA
namespace Go.Cl
structure WF (s : ASt) : Prop where
 room : 0 ≤ 16000000
 bound : ∀ j o, s.heap.get j = some o -> j < s.next
structure Adds (s s' : ASt) (X : Nat -> Option AO) : Prop where
 next : s'.next = s.next
 free : ∀ j o, X j = some o -> s.heap.get j = none ∧ j < s.next
 get : ∀ j, s'.heap.get j = match X j with
  | some o => some o
  | none => s.heap.get j
structure Keeps (s t : ASt) : Prop where
 next : s.next ≤ t.next
 gone : ∀ j, j < s.next -> s.heap.get j = none -> t.heap.get j = none
 here : ∀ j, s.heap.get j ≠ none -> t.heap.get j ≠ none
 wf : WF t
theorem Keeps.refl {s : ASt} (h : WF s) : Keeps s s := ⟨Nat.le_refl _, fun _ _ h => h, fun _ h => h, h⟩
theorem Keeps.trans {s t u : ASt} (h : Keeps s t) (k : Keeps t u) : Keeps s u :=
 ⟨Nat.le_trans h.next k.next, fun j hj hn => k.gone j (Nat.lt_of_lt_of_le hj h.next) (h.gone j hj hn), fun j hj => k.here j (h.here j hj), k.wf⟩
section
variable {s s' : ASt} {X : Nat -> Option AO}
theorem Adds.same (h : Adds s s' X) {j : Nat} {o : AO} (hj : s.heap.get j = some o) : s'.heap.get j = some o := by
 rw [h.get j]
 cases hx : X j with
 | none => exact hj
 | some o' => have := (h.free j o' hx).1; rw [hj] at this; cases this
theorem Adds.blk (h : Adds s s' X) {i : Nat} {b : Blk} (hb : s.blk? i = some b) : s'.blk? i = some b := by
 unfold ASt.blk? at *
 split at hb
 ·rename_i b0 hg; rw [h.same hg]; exact hb
 ·cases hb
theorem Adds.map (h : Adds s s' X) {i : Nat} {es : List (Value × Value)} (hb : s.map? i = some es) : s'.map? i = some es := by
 unfold ASt.map? at *
 split at hb
 ·rename_i b0 hg; rw [h.same hg]; exact hb
 ·cases hb
theorem Adds.cells (h : Adds s s' X) {i off c n : Nat} {l : List Value} (hc : s.cellsAt i off c n = some l) : s'.cellsAt i off c n = some l := by
 unfold ASt.cellsAt at *
 split at hc
 ·rename_i b hb; rw [h.blk hb]; exact hc
 ·cases hc
theorem get_of_blk {i : Nat} {b : Blk} (hb : s.blk? i = some b) : s.heap.get i = some (.blk b) := by
 unfold ASt.blk? at hb
 split at hb
 ·rename_i b0 hg; rw [hg]; rw [Option.some.inj hb]
 ·cases hb
theorem get_of_map {i : Nat} {es : List (Value × Value)} (hb : s.map? i = some es) : s.heap.get i = some (.map es) := by
 unfold ASt.map? at hb
 split at hb
 ·rename_i b0 hg; rw [hg]; rw [Option.some.inj hb]
 ·cases hb
theorem Adds.put (h : Adds s s' X) (hw : WF s) {i : Nat} {o0 o : AO} (hi : s.heap.get i = some o0) : Adds (s.put i o) (s'.put i o) X ∧ Keeps s (s.put i o) := by
 have hlt := hw.bound i o0 hi
 have hr := hw.room
 have hd : i + 1 < 2 ^ depth i := deep (by omega)
 have hX : X i = none := by
  cases hx : X i with
  | none => rfl
  | some o' => have := (h.free i o' hx).1; rw [hi] at this; cases this
 refine ⟨⟨h.next, fun j o1 hj => ?_, fun j => ?_⟩, ⟨Nat.le_refl _, fun j hj hn => ?_, fun j hj => ?_, hr, fun j o1 hj => ?_⟩⟩
 ·have hji : i ≠ j := fun e => by rw [e] at hX; rw [hX] at hj; cases hj
  simp only [ASt.put, Tr.get_set_ne _ _ _ _ _ hji]
  exact h.free j o1 hj
 ·by_cases hji : i = j
  ·subst hji
   simp only [ASt.put, Tr.get_set_self _ _ _ _ hd, hX]
  ·simp only [ASt.put, Tr.get_set_ne _ _ _ _ _ hji]
   exact h.get j
 ·have hji : i ≠ j := fun e => by rw [e] at hi; rw [hi] at hn; cases hn
  simp only [ASt.put, Tr.get_set_ne _ _ _ _ _ hji]; exact hn
 ·by_cases hji : i = j
  ·subst hji; simp [ASt.put, Tr.get_set_self _ _ _ _ hd]
  ·simp only [ASt.put, Tr.get_set_ne _ _ _ _ _ hji]; exact hj
 ·by_cases hji : i = j
  ·subst hji; exact hlt
  ·simp only [ASt.put, Tr.get_set_ne _ _ _ _ _ hji] at hj
   exact hw.bound j o1 hj
theorem Adds.new (h : Adds s s' X) (hw : WF s) (hroom : s.room = true) (o : AO) : Adds (s.new o) (s'.new o) X ∧ Keeps s (s.new o) := by
 have hlt : 0 < 16000000 := by omega
 have hd : s.next + 1 < 2 ^ depth s.next := deep (by omega)
 have hXn : X s.next = none := by
  cases hx : X s.next with
  | none => rfl
  | some o' => have := (h.free _ o' hx).2; omega
 refine ⟨⟨by simp only [ASt.new, h.next], fun j o1 hj => ?_, fun j => ?_⟩, ⟨by simp only [ASt.new]; omega, fun j hj hn => ?_, fun j hj => ?_, by omega, fun j o1 hj => ?_⟩⟩
 ·obtain ⟨h1, h2⟩ := h.free j o1 hj
  have hji : s.next ≠ j := by omega
  refine ⟨?_, by simp only [ASt.new]; omega⟩
  simp only [ASt.new, Tr.get_set_ne _ _ _ _ _ hji]; exact h1
 ·by_cases hji : s.next = j
  ·subst hji
   simp only [ASt.new, h.next, Tr.get_set_self _ _ _ _ hd, hXn]
  ·simp only [ASt.new, h.next, Tr.get_set_ne _ _ _ _ _ hji]
   exact h.get j
 ·have hji : s.next ≠ j := by omega
  simp only [ASt.new, Tr.get_set_ne _ _ _ _ _ hji]; exact hn
 ·have hji : s.next ≠ j := fun e => by
   have : s.heap.get j = none := by
    cases hg : s.heap.get j with
    | none => rfl
    | some o1 => have := hw.bound j o1 hg; omega
   exact hj this
  simp only [ASt.new, Tr.get_set_ne _ _ _ _ _ hji]; exact hj
 ·by_cases hji : s.next = j
  ·subst hji; simp only [ASt.new]; omega
  ·simp only [ASt.new, Tr.get_set_ne _ _ _ _ _ hji] at hj
   have := hw.bound j o1 hj
   simp only [ASt.new]; omega
theorem Adds.room (_ : Adds s s' X) : s'.room = s.room := rfl
def Fr (s : ASt) (X : Nat -> Option AO) (v : Value) (t : ASt) (r : Option (Value × ASt)) : Prop := ∃ t', r = some (v, t') ∧ Adds t t' X ∧ Keeps s t
theorem newPtr_fr (h : Adds s s' X) (hw : WF s) {cs : List Value} {esz : Nat} {v : Value} {t : ASt} (hn : newPtr s cs esz = some (v, t)) : Fr s X v t (newPtr s' cs esz) := by
 unfold newPtr at *
 rw [h.room, h.next]
 split at hn
 ·rename_i hr
  injection hn with hn; injection hn with e1 e2; subst e1; subst e2
  rw [if_pos hr]
  exact ⟨_, rfl, h.new hw hr _⟩
 ·cases hn
theorem newSlice_fr (h : Adds s s' X) (hw : WF s) {cs : List Value} {len esz : Nat} {v : Value} {t : ASt} (hn : newSlice s cs len esz = some (v, t)) : Fr s X v t (newSlice s' cs len esz) := by
 unfold newSlice at *
 rw [h.room, h.next]
 split at hn
 ·rename_i hr
  injection hn with hn; injection hn with e1 e2; subst e1; subst e2
  rw [if_pos hr]
  exact ⟨_, rfl, h.new hw hr _⟩
 ·cases hn
theorem storeAt_fr (h : Adds s s' X) (hw : WF s) {i off c : Nat} {vs : List Value} {t : ASt} (hs : s.storeAt i off c vs = some t) : ∃ t', s'.storeAt i off c vs = some t' ∧ Adds t t' X ∧ Keeps s t := by
 unfold ASt.storeAt at *
 split at hs
 ·rename_i b hb
  rw [h.blk hb]
  simp only
  split at hs
  ·rename_i hc
   rw [if_pos hc]
   split at hs
   ·cases hs
   ·split at hs
    ·rename_i l hl
     obtain rfl := Option.some.inj hs
     exact ⟨_, rfl, h.put hw (get_of_blk hb)⟩
    ·cases hs
  ·cases hs
 ·cases hs
theorem storeA_fr {P : Program} (h : Adds s s' X) (hw : WF s) {ty : TypeId} {a v : Value} {t : ASt} (hs : storeA P s ty a v = some t) : ∃ t', storeA P s' ty a v = some t' ∧ Adds t t' X ∧ Keeps s t := by
 unfold storeA at *
 split at hs
 ·split at hs
  ·rename_i hc
   obtain rfl := Option.some.inj hs
   refine ⟨s', ?_, h, Keeps.refl hw⟩
   rw [if_pos hc]
  ·cases hs
 ·rename_i hne
  split at hs
  ·rename_i hc; rw [if_pos hc]; exact storeAt_fr h hw hs
  ·cases hs
 ·cases hs
theorem buildSliceA_fr {P : Program} (h : Adds s s' X) (hw : WF s) {ty : TypeId} {n : Nat} {ps : List (Nat × Value)} {v : Value} {t : ASt} (hn : buildSliceA P s ty n ps = some (v, t)) : Fr s X v t (buildSliceA P s' ty n ps) := by
 unfold buildSliceA at *
 split at hn
 ·split at hn
  ·split at hn
   ·rename_i hc
    rw [if_pos hc]
    split at hn
    ·exact newSlice_fr h hw hn
    ·cases hn
   ·cases hn
  ·cases hn
 ·cases hn
theorem makeSliceA_fr {P : Program} (h : Adds s s' X) (hw : WF s) {ty : TypeId} {x y v : Value} {t : ASt} (hn : makeSliceA P s ty x y = some (v, t)) : Fr s X v t (makeSliceA P s' ty x y) := by
 unfold makeSliceA at *
 split at hn
 ·split at hn
  ·split at hn
   ·rename_i hc; rw [if_pos hc]; exact newSlice_fr h hw hn
   ·cases hn
  ·cases hn
 ·cases hn
theorem convA_fr {P : Program} (h : Adds s s' X) (hw : WF s) {a b : TypeId} {x v : Value} {t : ASt} (hc : convA P s a b x = some (v, t)) : Fr s X v t (convA P s' a b x) := by
 unfold convA at *
 split at hc
 ·injection hc with hc; injection hc with e1 e2; subst e1; subst e2; exact ⟨_, rfl, h, Keeps.refl hw⟩
 ·injection hc with hc; injection hc with e1 e2; subst e1; subst e2; exact ⟨_, rfl, h, Keeps.refl hw⟩
 ·split at hc
  ·rename_i hq; rw [if_pos hq]; exact newSlice_fr h hw hc
  ·cases hc
 ·split at hc
  ·cases hc
  ·split at hc
   ·rename_i b0 hb
    rw [h.blk hb]
    simp only
    split at hc
    ·rename_i hq
     rw [if_pos hq]
     injection hc with hc; injection hc with e1 e2; subst e1; subst e2
     exact ⟨_, rfl, h.put hw (get_of_blk hb)⟩
    ·cases hc
   ·cases hc
 ·split at hc
  ·rename_i hq; rw [if_pos hq]; injection hc with hc; injection hc with e1 e2; subst e1; subst e2; exact ⟨_, rfl, h, Keeps.refl hw⟩
  ·cases hc
 ·split at hc
  ·rename_i hq
   rw [if_pos hq]
   split at hc
   ·injection hc with hc; injection hc with e1 e2; subst e1; subst e2; exact ⟨_, rfl, h, Keeps.refl hw⟩
   ·split at hc
    ·rename_i l hl
     rw [h.cells hl]
     simp only
     split at hc
     ·injection hc with hc; injection hc with e1 e2; subst e1; subst e2; exact ⟨_, rfl, h, Keeps.refl hw⟩
     ·cases hc
    ·cases hc
  ·cases hc
 ·cases hc
theorem srcCells_fr (h : Adds s s' X) {z : Nat} {y : Value} {r : Nat × List Value} (hs : srcCells s z y = some r) : srcCells s' z y = some r := by
 unfold srcCells at *
 split at hs
 ·exact hs
 ·split at hs
  ·exact hs
  ·split at hs
   ·rename_i l hl; rw [h.cells hl]; exact hs
   ·cases hs
 ·exact hs
 ·cases hs
theorem srcA_fr (h : Adds s s' X) {z by8 : Nat} {zv y : Value} {xd : TypeDesc} {r : Nat × List Value} (hs : srcA s z by8 zv xd y = some r) : srcA s' z by8 zv xd y = some r := by
 unfold srcA at *
 split at hs
 ·exact hs
 ·exact srcCells_fr h hs
theorem appendA_fr {P : Program} (h : Adds s s' X) (hw : WF s) {st xt : TypeId} {x y v : Value} {t : ASt} (ha : appendA P s st xt x y = some (v, t)) : Fr s X v t (appendA P s' st xt x y) := by
 unfold appendA at *
 split at ha
 case h_2 => cases ha
 split at ha
 case h_1 => cases ha
 split at ha
 case h_2 => cases ha
 split at ha
 case h_2 => cases ha
 rename_i n new hsrc
 rw [srcA_fr h hsrc]
 simp only
 split at ha
 case h_2 => cases ha
 split at ha
 case isFalse => cases ha
 rename_i hc
 rw [if_pos hc]
 split at ha
 ·injection ha with ha; injection ha with e1 e2; subst e1; subst e2; exact ⟨_, rfl, h, Keeps.refl hw⟩
 ·split at ha
  ·split at ha
   ·rename_i hq; rw [if_pos hq]; exact newSlice_fr h hw ha
   ·cases ha
  ·split at ha
   ·split at ha
    ·rename_i hq; rw [if_pos hq]; exact newSlice_fr h hw ha
    ·cases ha
   ·split at ha
    case h_2 => cases ha
    rename_i b hb
    rw [h.blk hb]
    simp only
    split at ha
    case isFalse => cases ha
    rename_i hq
    rw [if_pos hq]
    split at ha
    ·rename_i hq2
     rw [if_pos hq2]
     injection ha with ha; injection ha with e1 e2; subst e1; subst e2
     exact ⟨_, rfl, h.put hw (get_of_blk hb)⟩
    ·rename_i hq2
     rw [if_neg hq2]
     split at ha
     ·rename_i old hl
      rw [h.cells hl]
      simp only
      obtain ⟨h1, h2⟩ := h.put (o := .blk (Cl.kill b)) hw (get_of_blk hb)
      obtain ⟨t', k1, k2, k3⟩ := newSlice_fr h1 h2.wf ha
      exact ⟨t', k1, k2, h2.trans k3⟩
     ·cases ha
  ·cases ha
theorem copyA_fr {P : Program} (h : Adds s s' X) (hw : WF s) {dt : TypeId} {x y v : Value} {t : ASt} (ha : copyA P s dt x y = some (v, t)) : Fr s X v t (copyA P s' dt x y) := by
 unfold copyA at *
 split at ha
 case h_2 => cases ha
 split at ha
 case h_2 => cases ha
 split at ha
 ·injection ha with ha; injection ha with e1 e2; subst e1; subst e2; exact ⟨_, rfl, h, Keeps.refl hw⟩
 ·split at ha
  case h_2 => cases ha
  rename_i k2 new i off hs
  rw [srcCells_fr h hs]
  simp only
  split at ha
  case h_2 => cases ha
  rename_i u hk hst
  injection ha with ha; injection ha with e1 e2; subst e1; subst e2
  obtain ⟨t', k1, k2, k3⟩ := storeAt_fr h hw hst
  rw [hk, k1]
  exact ⟨_, rfl, k2, k3⟩
theorem clearA_fr {P : Program} (h : Adds s s' X) (hw : WF s) {ty : TypeId} {x v : Value} {t : ASt} (ha : clearA P s ty x = some (v, t)) : Fr s X v t (clearA P s' ty x) := by
 unfold clearA at *
 split at ha
 ·injection ha with ha; injection ha with e1 e2; subst e1; subst e2; exact ⟨_, rfl, h, Keeps.refl hw⟩
 ·split at ha
  ·injection ha with ha; injection ha with e1 e2; subst e1; subst e2; exact ⟨_, rfl, h, Keeps.refl hw⟩
  ·split at ha
   case h_2 => cases ha
   rename_i m z zv hz hzv
   split at ha
   case isFalse => cases ha
   rename_i hc
   split at ha
   case h_2 => cases ha
   rename_i s1 hst
   injection ha with ha; injection ha with e1 e2; subst e1; subst e2
   obtain ⟨t', k1, k2, k3⟩ := storeAt_fr h hw hst
   rw [if_pos hc, k1]
   exact ⟨_, rfl, k2, k3⟩
 ·cases ha
theorem mapUpdateA_fr {P : Program} (h : Adds s s' X) (hw : WF s) {ty : TypeId} {m k v : Value} {t : ASt} (hu : mapUpdateA P s ty m k v = some t) : ∃ t', mapUpdateA P s' ty m k v = some t' ∧ Adds t t' X ∧ Keeps s t := by
 unfold mapUpdateA at *
 split at hu
 ·split at hu
  ·rename_i es he hk
   rw [h.map he]
   simp only [hk]
   split at hu
   ·obtain rfl := Option.some.inj hu
    exact ⟨_, rfl, h.put hw (get_of_map he)⟩
   ·cases hu
  ·cases hu
 ·cases hu
theorem loadA_fr {P : Program} (h : Adds s s' X) {ty : TypeId} {a v : Value} (hl : loadA P s ty a = some v) : loadA P s' ty a = some v := by
 unfold loadA at *
 split at hl
 ·split at hl
  ·split at hl
   ·rename_i l hc; rw [h.cells hc]; exact hl
   ·cases hl
  ·split at hl
   ·rename_i v0 r0 hc; rw [h.cells hc]; exact hl
   ·cases hl
  ·cases hl
 ·cases hl
theorem eszIs_fr (h : Adds s s' X) {i c z : Nat} (he : eszIs s i c z = true) : eszIs s' i c z = true := by
 unfold eszIs at *
 split at he
 ·rfl
 ·split at he
  ·rename_i b hb; rw [h.blk hb]; exact he
  ·cases he
theorem sliceA_fr {P : Program} (h : Adds s s' X) {ty : TypeId} {x v : Value} {lo hi mx : Option Value} (hs : sliceA P s ty x lo hi mx = some v) : sliceA P s' ty x lo hi mx = some v := by
 unfold sliceA at *
 split at hs
 ·exact hs
 ·split at hs
  ·split at hs
   ·rename_i hc
    rw [if_pos hc]
    split at hs
    ·split at hs
     ·exact hs
     ·split at hs
      ·rename_i he; rw [if_pos (eszIs_fr h he)]; exact hs
      ·cases hs
     ·cases hs
    ·split at hs
     ·split at hs
      ·rename_i hc2
       rw [if_pos hc2]
       split at hs
       ·exact hs
       ·split at hs
        ·rename_i he; rw [if_pos (eszIs_fr h he)]; exact hs
        ·cases hs
       ·cases hs
      ·cases hs
     ·cases hs
   ·cases hs
  ·cases hs
 ·split at hs
  ·rename_i l hh z b q1 q2 q3 hb
   rw [q1, q2, q3, h.blk hb]
   exact hs
  ·cases hs
 ·cases hs
theorem lenA_fr {P : Program} (h : Adds s s' X) {ty : TypeId} {x v : Value} (hl : lenA P s ty x = some v) : lenA P s' ty x = some v := by
 unfold lenA at *
 split at hl <;> try exact hl
 ·split at hl
  ·rename_i es he; rw [h.map he]; exact hl
  ·cases hl
theorem lookupA_fr {P : Program} (h : Adds s s' X) {ty : TypeId} {m k v : Value} {ok : Bool} (hl : lookupA P s ty m k ok = some v) : lookupA P s' ty m k ok = some v := by
 unfold lookupA at *
 split at hl
 case h_2 => cases hl
 split at hl
 case h_2 => cases hl
 rename_i z hz hk
 split at hl
 case isFalse => cases hl
 rename_i hp
 rw [if_pos hp]
 cases m <;> try (simp at hl; done)
 rename_i r
 cases r with
 | none => exact hl
 | some r =>
  simp only at hl ⊢
  cases he : s.map? r with
  | none => rw [he] at hl; simp at hl
  | some es => rw [h.map he]; rw [he] at hl; exact hl
end
def FrAR (P : Program) (o : Oper) (f : AFr) (s s' : ASt) (X : Nat -> Option AO) : AR -> Prop
 | .val v t => ∃ t', aop P o f s' = some (.val v t') ∧ Adds t t' X ∧ Keeps s t
 | .call g args => aop P o f s' = some (.call g args)
theorem vOf_fr {s s' : ASt} {X : Nat -> Option AO} (h : Adds s s' X) (hw : WF s) {r r' : Option Value} (hr : ∀ v, r = some v -> r' = some v) {x : AR} (hx : vOf s r = some x) :
  ∃ v t t', x = .val v t ∧ vOf s' r' = some (.val v t') ∧ Adds t t' X ∧ Keeps s t := by
 cases r with
 | none => simp [vOf] at hx
 | some v =>
  simp only [vOf] at hx
  obtain rfl := Option.some.inj hx
  exact ⟨v, s, s', rfl, by rw [hr v rfl]; rfl, h, Keeps.refl hw⟩
theorem pOf_fr {s : ASt} {X : Nat -> Option AO} {r r' : Option (Value × ASt)} (hr : ∀ v t, r = some (v, t) -> Fr s X v t r') {x : AR} (hx : pOf r = some x) :
  ∃ v t t', x = .val v t ∧ pOf r' = some (.val v t') ∧ Adds t t' X ∧ Keeps s t := by
 cases r with
 | none => simp [pOf] at hx
 | some p =>
  obtain ⟨v, t⟩ := p
  simp only [pOf] at hx
  obtain rfl := Option.some.inj hx
  obtain ⟨t', k1, k2, k3⟩ := hr v t rfl
  exact ⟨v, t, t', rfl, by rw [k1]; rfl, k2, k3⟩
theorem uOf_fr {s : ASt} {X : Nat -> Option AO} {r r' : Option ASt} (hr : ∀ t, r = some t -> ∃ t', r' = some t' ∧ Adds t t' X ∧ Keeps s t) {x : AR} (hx : uOf r = some x) :
  ∃ v t t', x = .val v t ∧ uOf r' = some (.val v t') ∧ Adds t t' X ∧ Keeps s t := by
 cases r with
 | none => simp [uOf] at hx
 | some t =>
  simp only [uOf] at hx
  obtain rfl := Option.some.inj hx
  obtain ⟨t', k1, k2, k3⟩ := hr t rfl
  exact ⟨undef, t, t', rfl, by rw [k1]; rfl, k2, k3⟩
theorem aop_fr {P : Program} {o : Oper} {f : AFr} {s s' : ASt} {X : Nat -> Option AO} (h : Adds s s' X) (hw : WF s) {x : AR} (hx : aop P o f s = some x) : FrAR P o f s s' X x := by
 have fin : (∃ v t t', x = .val v t ∧ aop P o f s' = some (.val v t') ∧ Adds t t' X ∧ Keeps s t) -> FrAR P o f s s' X x := by
  rintro ⟨v, t, t', rfl, k1, k2, k3⟩
  exact ⟨t', k1, k2, k3⟩
 obtain ⟨dst, op, type, pos, after, guard⟩ := o
 cases op <;> (try simp only [aop] at hx fin ⊢) <;> (try (cases hx; done))
 case move y => exact fin (vOf_fr h hw (fun v hv => hv) hx)
 case assign y => exact fin (vOf_fr h hw (fun v hv => hv) hx)
 case pick c y z =>
  apply fin
  split at hx
  ·rename_i t u v h1 h2 h3
   obtain rfl := Option.some.inj hx
   exact ⟨_, s, s', rfl, rfl, h, Keeps.refl hw⟩
  ·cases hx
 case alloc e =>
  apply fin
  split at hx
  ·split at hx
   ·rename_i hp; rw [if_pos hp]; exact pOf_fr (fun v t hv => newPtr_fr h hw hv) hx
   ·cases hx
  ·cases hx
 case box e y =>
  apply fin
  split at hx
  ·exact pOf_fr (fun v t hv => newPtr_fr h hw hv) hx
  ·cases hx
 case build t ps =>
  apply fin
  split at hx
  ·exact vOf_fr h hw (fun v hv => hv) hx
  ·cases hx
 case buildSlice t n ps =>
  apply fin
  split at hx
  ·exact pOf_fr (fun v t hv => buildSliceA_fr h hw hv) hx
  ·cases hx
 case load t y =>
  apply fin
  split at hx
  ·exact vOf_fr h hw (fun v hv => loadA_fr h hv) hx
  ·cases hx
 case store t y z =>
  apply fin
  split at hx
  ·exact uOf_fr (fun t ht => storeA_fr h hw ht) hx
  ·cases hx
 case nilCheck y =>
  apply fin
  split at hx
  ·obtain rfl := Option.some.inj hx; exact ⟨_, s, s', rfl, rfl, h, Keeps.refl hw⟩
  ·obtain rfl := Option.some.inj hx; exact ⟨_, s, s', rfl, rfl, h, Keeps.refl hw⟩
  ·cases hx
 case binOp op t y z yt =>
  apply fin
  split at hx
  ·exact vOf_fr h hw (fun v hv => hv) hx
  ·cases hx
 case unOp op t y =>
  apply fin
  split at hx
  ·exact vOf_fr h hw (fun v hv => hv) hx
  ·cases hx
 case convert a b y =>
  apply fin
  split at hx
  ·exact pOf_fr (fun v t hv => convA_fr h hw hv) hx
  ·cases hx
 case makeFunc fn as bs =>
  cases fn <;> simp only at hx fin ⊢ <;> try (cases hx; done)
  apply fin
  split at hx
  ·obtain rfl := Option.some.inj hx; exact ⟨_, s, s', rfl, rfl, h, Keeps.refl hw⟩
  ·cases hx
 case makeMap t r =>
  cases r with
  | some _ => simp at hx
  | none =>
   simp only at hx fin ⊢
   apply fin
   rw [h.room, h.next]
   split at hx
   ·rename_i hr
    rw [if_pos hr]
    obtain rfl := Option.some.inj hx
    obtain ⟨h1, h2⟩ := h.new hw hr (.map [])
    exact ⟨_, _, _, rfl, rfl, h1, h2⟩
   ·cases hx
 case makeSlice t y z =>
  apply fin
  split at hx
  ·exact pOf_fr (fun v t hv => makeSliceA_fr h hw hv) hx
  ·cases hx
 case makeInterface t y =>
  apply fin
  split at hx
  ·cases hx
  ·obtain rfl := Option.some.inj hx; exact ⟨_, s, s', rfl, rfl, h, Keeps.refl hw⟩
  ·cases hx
 case slice t y lo hi mx =>
  apply fin
  split at hx
  ·exact vOf_fr h hw (fun v hv => sliceA_fr h hv) hx
  ·cases hx
 case fieldAddr t y i =>
  apply fin
  split at hx
  ·exact vOf_fr h hw (fun v hv => hv) hx
  ·cases hx
 case field t y i =>
  apply fin
  split at hx
  ·exact vOf_fr h hw (fun v hv => hv) hx
  ·cases hx
 case indexAddr t y z =>
  apply fin
  split at hx
  ·exact vOf_fr h hw (fun v hv => hv) hx
  ·cases hx
 case index t y z =>
  apply fin
  split at hx
  ·exact vOf_fr h hw (fun v hv => hv) hx
  ·cases hx
 case lookup t y z ok =>
  apply fin
  split at hx
  ·exact vOf_fr h hw (fun v hv => lookupA_fr h hv) hx
  ·cases hx
 case mapUpdate t y z u =>
  apply fin
  split at hx
  ·exact uOf_fr (fun t ht => mapUpdateA_fr h hw ht) hx
  ·cases hx
 case extract y i =>
  apply fin
  split at hx
  ·exact vOf_fr h hw (fun v hv => hv) hx
  ·cases hx
 case call c =>
  obtain ⟨callee, args, ts⟩ := c
  split at hx
  case h_2 => cases hx
  rename_i l hl
  cases callee with
  | invoke y m => cases hx
  | value y =>
   simp only at hx
   split at hx
   ·rename_i g as bs hy
    obtain rfl := Option.some.inj hx
    simp only [FrAR, aop, hl, hy]
   ·cases hx
  | builtin b =>
   simp only [hl] at hx fin
   apply fin
   unfold builtinA at hx ⊢
   split at hx
   ·exact vOf_fr h hw (fun v hv => lenA_fr h hv) hx
   ·exact pOf_fr (fun v t hv => appendA_fr h hw hv) hx
   ·exact pOf_fr (fun v t hv => copyA_fr h hw hv) hx
   ·exact pOf_fr (fun v t hv => clearA_fr h hw hv) hx
   ·exact vOf_fr h hw (fun v hv => hv) hx
   ·exact vOf_fr h hw (fun v hv => hv) hx
   ·cases hx
end Go.Cl
namespace Go.Cl
abbrev Call := FuncId -> List Value -> ASt -> Option (Value × ASt)
def CallFr (call : Call) : Prop := ∀ (s s' : ASt) (X : Nat -> Option AO) (g : FuncId) (args : List Value) (v : Value) (t : ASt), Adds s s' X -> WF s -> call g args s = some (v, t) -> ∃ t', call g args s' = some (v, t') ∧ Adds t t' X ∧ Keeps s t
theorem runOps_fr {P : Program} {call : Call} (hc : CallFr call) (all : List Oper) : ∀ (l : List Oper) {f f1 : AFr} {s s' t : ASt} {X : Nat -> Option AO}, Adds s s' X -> WF s -> runOps P call all l f s = some (f1, t) -> ∃ t', runOps P call all l f s' = some (f1, t') ∧ Adds t t' X ∧ Keeps s t := by
 intro l
 induction l with
 | nil =>
  intro f f1 s s' t X h hw hr
  simp only [runOps] at hr
  injection hr with hr; injection hr with e1 e2; subst e1; subst e2
  exact ⟨s', rfl, h, Keeps.refl hw⟩
 | cons o l ih =>
  intro f f1 s s' t X h hw hr
  simp only [runOps] at hr ⊢
  split at hr
  ·rename_i hwa
   rw [if_pos hwa]
   split at hr
   ·rename_i v s1 hop
    obtain ⟨t1, k1, k2, k3⟩ := aop_fr h hw hop
    rw [k1]
    split at hr
    ·rename_i f2 hp
     obtain ⟨t', j1, j2, j3⟩ := ih k2 k3.wf hr
     exact ⟨t', by simp only [hp]; exact j1, j2, k3.trans j3⟩
    ·cases hr
   ·rename_i g args hop
    have k1 := aop_fr h hw hop
    simp only [FrAR] at k1
    rw [k1]
    split at hr
    ·rename_i v s1 hcl
     obtain ⟨t1, c1, c2, c3⟩ := hc _ _ _ _ _ _ _ h hw hcl
     split at hr
     ·rename_i f2 hp
      obtain ⟨t', j1, j2, j3⟩ := ih c2 c3.wf hr
      exact ⟨t', by simp only [c1, hp]; exact j1, j2, c3.trans j3⟩
     ·cases hr
    ·cases hr
   ·cases hr
  ·rename_i hwa
   rw [if_neg hwa]
   split at hr
   ·rename_i f2 hp
    obtain ⟨t', j1, j2, j3⟩ := ih h hw hr
    exact ⟨t', j1, j2, j3⟩
   ·cases hr
abbrev Made := List (Nat × Nat × Blk)
def sel (p : Nat -> Bool) : Made -> Nat -> Option AO
 | [], _ => none
 | (j, id, b) :: r, i => if p j = true ∧ id = i then some (.blk b) else sel p r i
theorem fill_get (p : Nat -> Bool) : ∀ (as : Made) (T : ASt), (∀ x ∈ as, 0 < 16000001) -> (fill p T as).next = T.next ∧ ∀ i, (fill p T as).heap.get i = match T.heap.get i with
  | some o => some o
  | none => sel p as i := by
 intro as
 induction as with
 | nil => intro T _; refine ⟨rfl, fun i => ?_⟩; simp only [fill, sel]; cases T.heap.get i <;> rfl
 | cons x r ih =>
  intro T hb
  obtain ⟨j, id, b⟩ := x
  have hid := hb (j, id, b) (List.mem_cons_self ..)
  have hr : ∀ x ∈ r, 0 < 16000001 := fun x hx => hb x (List.mem_cons_of_mem _ hx)
  simp only [fill]
  split
  ·rename_i hp hg
   obtain ⟨h1, h2⟩ := ih (T.put id (.blk b)) hr
   refine ⟨h1, fun i => ?_⟩
   rw [h2 i]
   by_cases hi : id = i
   ·subst hi
    simp only [ASt.put, Tr.get_set_self _ _ _ _ (deep hid), hg, sel, hp, and_self, if_true]
   ·rw [ASt.get_put_ne _ _ _ _ hi]
    simp only [sel, hi, and_false, if_false]
  ·rename_i hne
   obtain ⟨h1, h2⟩ := ih T hr
   refine ⟨h1, fun i => ?_⟩
   rw [h2 i]
   cases hg : T.heap.get i with
   | some o => rfl
   | none =>
    simp only [sel]
    split
    ·rename_i hpi
     obtain ⟨hp, rfl⟩ := hpi
     exact absurd hg (hne hp)
    ·rfl
theorem sel_none {p : Nat -> Bool} : ∀ {as : Made} {i : Nat}, (∀ x ∈ as, x.2.1 ≠ i) -> sel p as i = none
 | [], _, _ => rfl
 | (j, id, b) :: r, i, h => by
  have h1 := h (j, id, b) (List.mem_cons_self ..)
  simp only [sel, if_neg (fun e => h1 e.2 : ¬(p j = true ∧ id = i))]
  exact sel_none (fun x hx => h x (List.mem_cons_of_mem _ hx))
theorem sel_some {p : Nat -> Bool} : ∀ {as : Made} {i : Nat} {o : AO}, sel p as i = some o -> ∃ j b, (j, i, b) ∈ as ∧ p j = true ∧ o = .blk b
 | [], _, _, h => by cases h
 | (j, id, b) :: r, i, o, h => by
  simp only [sel] at h
  split at h
  ·rename_i hp
   obtain ⟨hp, rfl⟩ := hp
   injection h with h
   exact ⟨j, b, List.mem_cons_self .., hp, h.symm⟩
  ·obtain ⟨j', b', h1, h2, h3⟩ := sel_some h
   exact ⟨j', b', List.mem_cons_of_mem _ h1, h2, h3⟩
theorem Adds.fill {T T' : ASt} {X : Nat -> Option AO} (h : Adds T T' X) (hw : WF T) {as : Made} (hid : ∀ x ∈ as, x.2.1 < T.next ∧ X x.2.1 = none) (p : Nat -> Bool) : Adds (fill p T as) (fill p T' as) X := by
 have hs : ∀ x ∈ as, 0 < 16000001 := fun x hx => by have := (hid x hx).1; have := hw.room; omega
 obtain ⟨n1, g1⟩ := fill_get p as T hs
 obtain ⟨n2, g2⟩ := fill_get p as T' hs
 refine ⟨by rw [n1, n2, h.next], fun j o hj => ?_, fun j => ?_⟩
 ·obtain ⟨h1, h2⟩ := h.free j o hj
  refine ⟨?_, by rw [n1]; exact h2⟩
  rw [g1 j, h1]
  exact sel_none fun x hx e => by have := (hid x hx).2; rw [e] at this; rw [hj] at this; cases this
 ·rw [g2 j, g1 j, h.get j]
  cases hx : X j with
  | some o => rfl
  | none => rfl
structure KeepB (B : Nat) (s t : ASt) : Prop where
 next : s.next ≤ t.next
 gone : ∀ j, j < B -> s.heap.get j = none -> t.heap.get j = none
 here : ∀ j, s.heap.get j ≠ none -> t.heap.get j ≠ none
 wf : WF t
theorem KeepB.trans {B : Nat} {s t u : ASt} (h : KeepB B s t) (k : KeepB B t u) : KeepB B s u :=
 ⟨Nat.le_trans h.next k.next, fun j hj hn => k.gone j hj (h.gone j hj hn), fun j hj => k.here j (h.here j hj), k.wf⟩
theorem KeepB.refl {B : Nat} {s : ASt} (h : WF s) : KeepB B s s := ⟨Nat.le_refl _, fun _ _ h => h, fun _ h => h, h⟩
theorem Keeps.toB {B : Nat} {s t : ASt} (h : Keeps s t) (hB : B ≤ s.next) : KeepB B s t := ⟨h.next, fun j hj => h.gone j (by omega), h.here, h.wf⟩
theorem KeepB.fill {B : Nat} {T : ASt} (hw : WF T) {as : Made} (hid : ∀ x ∈ as, B ≤ x.2.1 ∧ x.2.1 < T.next) (p : Nat -> Bool) : KeepB B T (fill p T as) := by
 have hs : ∀ x ∈ as, 0 < 16000001 := fun x hx => by have := (hid x hx).2; have := hw.room; omega
 obtain ⟨n1, g1⟩ := fill_get p as T hs
 refine ⟨by rw [n1]; exact Nat.le_refl _, fun j hj hn => ?_, fun j hj => ?_, ⟨hw.room, fun j o hj => ?_⟩⟩
 ·rw [g1 j, hn]
  exact sel_none fun x hx e => by have := (hid x hx).1; omega
 ·rw [g1 j]
  cases hg : T.heap.get j with
  | none => exact absurd hg hj
  | some o => simp
 ·rw [g1 j] at hj
  rw [n1]
  cases hg : T.heap.get j with
  | some o => exact hw.bound j o hg
  | none =>
   rw [hg] at hj
   obtain ⟨j', b, h1, _, _⟩ := sel_some hj
   exact (hid _ h1).2
def EvR (X : Nat -> Option AO) (B : Nat) (T : ASt) : Ev -> Ev -> Prop
 | .skip, .skip => True
 | .quiet v, .quiet u => v = u
 | .made v i b, .made v' i' b' => v = v' ∧ i = i' ∧ b = b'
 | .eff v s, .eff v' s' => v = v' ∧ Adds s s' X ∧ KeepB B T s
 | _, _ => False
theorem drawOp_fr {P : Program} {call : Call} (hc : CallFr call) {all : List Oper} {m id : Nat} {as : Made} {o : Oper} {f : AFr} {T T' : ASt} {X : Nat -> Option AO} {B : Nat} {e : Ev}
  (h : Adds T T' X) (hw : WF T) (hB : B ≤ T.next) (hid : ∀ x ∈ as, B ≤ x.2.1 ∧ x.2.1 < T.next ∧ X x.2.1 = none) (hd : drawOp P call all m id as o f T = some e) :
  ∃ e', drawOp P call all m id as o f T' = some e' ∧ EvR X B T e e' := by
 have hf := h.fill hw (fun x hx => (hid x hx).2) (Nat.testBit m)
 have kf := KeepB.fill (B := B) hw (fun x hx => ⟨(hid x hx).1, (hid x hx).2.1⟩) (Nat.testBit m)
 have hBn : B ≤ (fill (Nat.testBit m) T as).next := Nat.le_trans hB kf.next
 unfold drawOp at *
 split at hd
 ·injection hd with hd; subst hd; exact ⟨.skip, rfl, trivial⟩
 ·split at hd
  ·rename_i hq
   split at hd
   ·rename_i v t hop
    injection hd with hd; subst hd
    obtain ⟨t', k1, _, _⟩ := aop_fr hf kf.wf hop
    exact ⟨.quiet v, by simp only [k1], rfl⟩
   ·cases hd
  ·exact ⟨e, hd, by
    split at hd
    ·split at hd
     ·injection hd with hd; subst hd; exact ⟨rfl, rfl, rfl⟩
     ·cases hd
    ·cases hd⟩
  ·split at hd
   ·rename_i v t hop
    injection hd with hd; subst hd
    obtain ⟨t', k1, k2, k3⟩ := aop_fr hf kf.wf hop
    exact ⟨.eff v t', by simp only [k1], rfl, k2, kf.trans (k3.toB hBn)⟩
   ·rename_i g args hop
    have k1 := aop_fr hf kf.wf hop
    simp only [FrAR] at k1
    split at hd
    ·rename_i v t hcl
     injection hd with hd; subst hd
     obtain ⟨t1, c1, c2, c3⟩ := hc _ _ _ _ _ _ _ hf kf.wf hcl
     exact ⟨.eff v t1, by simp only [k1, c1], rfl, c2, kf.trans (c3.toB hBn)⟩
    ·cases hd
   ·cases hd
theorem EvR.val {X : Nat -> Option AO} {B : Nat} {T : ASt} {e e' : Ev} (h : EvR X B T e e') : e'.val = e.val := by
 cases e <;> cases e' <;> simp_all [EvR, Ev.val]
def EvS : Ev -> Ev -> Prop
 | .skip, .skip => True
 | .quiet v, .quiet u => v = u
 | .made v i b, .made v' i' b' => v = v' ∧ i = i' ∧ b = b'
 | .eff v _, .eff v' _ => v = v'
 | _, _ => False
def EsS : List Ev -> List Ev -> Prop
 | [], [] => True
 | e :: r, e' :: r' => EvS e e' ∧ EsS r r'
 | _, _ => False
def StR (X : Nat -> Option AO) (B : Nat) (T : ASt) : List ASt -> List ASt -> Prop
 | [], [] => True
 | s :: r, s' :: r' => (Adds s s' X ∧ KeepB B T s) ∧ StR X B T r r'
 | _, _ => False
theorem StR.mono {X : Nat -> Option AO} {B : Nat} {T U : ASt} (h : KeepB B T U) : ∀ {l l' : List ASt}, StR X B U l l' -> StR X B T l l'
 | [], [], _ => trivial
 | _ :: _, _ :: _, ⟨⟨h1, h2⟩, h3⟩ => ⟨⟨h1, h.trans h2⟩, StR.mono h h3⟩
 | [], _ :: _, k => k
 | _ :: _, [], k => k
theorem StR.take {X : Nat -> Option AO} {B : Nat} {T : ASt} : ∀ (n : Nat) {l l' : List ASt}, StR X B T l l' -> StR X B T (l.take n) (l'.take n)
 | 0, _, _, _ => trivial
 | _ + 1, [], [], _ => trivial
 | n + 1, _ :: _, _ :: _, ⟨h1, h2⟩ => ⟨h1, StR.take n h2⟩
 | _ + 1, [], _ :: _, k => k
 | _ + 1, _ :: _, [], k => k
theorem StR.drop {X : Nat -> Option AO} {B : Nat} {T : ASt} : ∀ (n : Nat) {l l' : List ASt}, StR X B T l l' -> StR X B T (l.drop n) (l'.drop n)
 | 0, _, _, h => h
 | _ + 1, [], [], _ => trivial
 | n + 1, _ :: _, _ :: _, ⟨_, h2⟩ => StR.drop n h2
 | _ + 1, [], _ :: _, k => k.elim
 | _ + 1, _ :: _, [], k => k.elim
theorem StR.last {X : Nat -> Option AO} {B : Nat} {T : ASt} : ∀ {l l' : List ASt} {d d' : ASt}, StR X B T l l' -> Adds d d' X -> KeepB B T d -> Adds (l.getLastD d) (l'.getLastD d') X ∧ KeepB B T (l.getLastD d)
 | [], [], _, _, _, h, k => ⟨h, k⟩
 | s :: r, s' :: r', d, d', ⟨h1, h2⟩, _, _ => by
  rw [List.getLastD_cons, List.getLastD_cons]
  exact StR.last h2 h1.1 h1.2
 | [], _ :: _, _, _, k, _, _ => k.elim
 | _ :: _, [], _, _, k, _, _ => k.elim
theorem drawOps_fr {P : Program} {call : Call} (hc : CallFr call) {all : List Oper} {X : Nat -> Option AO} {B : Nat} (hX : ∀ j o, X j = some o -> j < B) : ∀ (ms : List Nat) (ops : List Oper) (i id : Nat) (f : AFr) (T T' : ASt) (as : Made) (es : List Ev),
  Adds T T' X -> WF T -> B ≤ id -> id + allocs P ops ≤ T.next -> (∀ x ∈ as, B ≤ x.2.1 ∧ x.2.1 < T.next) -> drawOps P call all ms ops i id f T as = some es ->
  ∃ es', drawOps P call all ms ops i id f T' as = some es' ∧ EsS es es' ∧ StR X B T (stagesOf P ops es T) (stagesOf P ops es' T') ∧ ∀ x ∈ madeOf es i, B ≤ x.2.1 ∧ x.2.1 < id + allocs P ops := by
 intro ms
 induction ms with
 | nil =>
  intro ops i id f T T' as es h hw _ _ _ hd
  cases ops <;> (simp only [drawOps] at hd ⊢; injection hd with hd; subst hd; exact ⟨[], rfl, trivial, ⟨⟨h, KeepB.refl hw⟩, trivial⟩, fun x hx => by cases hx⟩)
 | cons m ms ih =>
  intro ops i id f T T' as es h hw hB hn has hd
  cases ops with
  | nil => simp only [drawOps] at hd ⊢; injection hd with hd; subst hd; exact ⟨[], rfl, trivial, ⟨⟨h, KeepB.refl hw⟩, trivial⟩, fun x hx => by cases hx⟩
  | cons o ops =>
   simp only [drawOps] at hd ⊢
   have hXn : ∀ k, B ≤ k -> X k = none := fun k hk => by
    cases hx : X k with
    | none => rfl
    | some o => have := hX k o hx; omega
   split at hd
   ·rename_i e he
    split at hd
    ·rename_i f' hp
     split at hd
     ·rename_i es1 hd1
      injection hd with hd; subst hd
      have hBT : B ≤ T.next := by omega
      obtain ⟨e', he', hr⟩ := drawOp_fr hc h hw hBT (fun x hx => ⟨(has x hx).1, (has x hx).2, hXn _ (has x hx).1⟩) he
      rw [he']
      simp only [hr.val, hp]
      have hmk : ∀ v d b, e = .made v d b -> d = id ∧ allocOp P o = true := by
       intro v d b hee
       subst hee
       unfold drawOp at he
       split at he
       ·cases he
       ·split at he
        ·split at he <;> cases he
        ·rename_i _ ha
         split at he
         ·split at he
          ·injection he with he; injection he with _ e2 _; exact ⟨e2.symm, ha⟩
          ·cases he
         ·cases he
        ·split at he
         ·cases he
         ·split at he <;> cases he
         ·cases he
      have hal : allocs P (o :: ops) = if allocOp P o then allocs P ops + 1 else allocs P ops := rfl
      have hB1 : B ≤ (if allocOp P o then id + 1 else id) := by split <;> omega
      have hsum : (if allocOp P o then id + 1 else id) + allocs P ops = id + allocs P (o :: ops) := by rw [hal]; split <;> omega
      have hs1 : ∀ {x : Nat × Nat × Blk}, (B ≤ x.2.1 ∧ x.2.1 < (if allocOp P o then id + 1 else id) + allocs P ops) -> B ≤ x.2.1 ∧ x.2.1 < id + allocs P (o :: ops) := fun h => ⟨h.1, by rw [← hsum]; exact h.2⟩
      cases e with
      | skip =>
       cases e' <;> try exact hr.elim
       obtain ⟨es', j1, j2, j3, j4⟩ := ih ops (i + 1) _ f' T T' as es1 h hw hB1 (by rw [hsum]; exact hn) has hd1
       simp only [j1]
       refine ⟨_, rfl, ⟨trivial, j2⟩, ?_, fun x hx => hs1 (j4 x hx)⟩
       simp only [stagesOf]
       split
       ·exact ⟨⟨h, KeepB.refl hw⟩, j3⟩
       ·exact j3
      | quiet v =>
       cases e' <;> try exact hr.elim
       obtain ⟨es', j1, j2, j3, j4⟩ := ih ops (i + 1) _ f' T T' as es1 h hw hB1 (by rw [hsum]; exact hn) has hd1
       simp only [j1]
       refine ⟨_, rfl, ⟨hr, j2⟩, ?_, fun x hx => hs1 (j4 x hx)⟩
       simp only [stagesOf]
       split
       ·exact ⟨⟨h, KeepB.refl hw⟩, j3⟩
       ·exact j3
      | made v d b =>
       cases e' <;> try exact hr.elim
       obtain ⟨rfl, rfl, rfl⟩ := hr
       obtain ⟨rfl, ha⟩ := hmk v d b rfl
       have hnew2 : d < d + allocs P (o :: ops) := by rw [hal, if_pos ha]; omega
       have hnew : B ≤ d ∧ d < T.next := ⟨hB, by omega⟩
       obtain ⟨es', j1, j2, j3, j4⟩ := ih ops (i + 1) _ f' T T' (as ++ [(i, d, b)]) es1 h hw hB1 (by rw [hsum]; exact hn) (fun x hx => by
        rcases List.mem_append.1 hx with h' | h'
        ·exact has x h'
        ·obtain rfl := List.mem_singleton.1 h'; exact hnew) hd1
       simp only [j1]
       refine ⟨_, rfl, ⟨⟨rfl, rfl, rfl⟩, j2⟩, ?_, fun x hx => ?_⟩
       ·simp only [stagesOf]
        split
        ·exact ⟨⟨h, KeepB.refl hw⟩, j3⟩
        ·exact j3
       ·simp only [madeOf] at hx
        rcases List.mem_cons.1 hx with rfl | hx
        ·exact ⟨hB, hnew2⟩
        ·exact hs1 (j4 x hx)
      | eff v s =>
       cases e' <;> try exact hr.elim
       rename_i v' s'
       obtain ⟨rfl, hr1, hr2⟩ := hr
       have hn2 : T.next ≤ s.next := hr2.next
       obtain ⟨es', j1, j2, j3, j4⟩ := ih ops (i + 1) _ f' s s' as es1 hr1 hr2.wf hB1 (by rw [hsum]; omega) (fun x hx => ⟨(has x hx).1, by have := (has x hx).2; omega⟩) hd1
       simp only [j1]
       refine ⟨_, rfl, ⟨rfl, j2⟩, ?_, fun x hx => hs1 (j4 x hx)⟩
       simp only [stagesOf]
       exact ⟨⟨h, KeepB.refl hw⟩, j3.mono hr2⟩
     ·cases hd
    ·cases hd
   ·cases hd
theorem madeOf_eq : ∀ {es es' : List Ev} (i : Nat), EsS es es' -> madeOf es' i = madeOf es i
 | [], [], _, _ => rfl
 | e :: r, e' :: r', i, ⟨h1, h2⟩ => by
  have := madeOf_eq (i + 1) h2
  cases e <;> cases e' <;> first
   | exact h1.elim
   | (obtain ⟨rfl, rfl, rfl⟩ := h1; simp only [madeOf, this])
   | simp only [madeOf, this]
 | [], _ :: _, _, h => h.elim
 | _ :: _, [], _, h => h.elim
theorem EvS.val {e e' : Ev} (h : EvS e e') : e'.val = e.val := by
 cases e <;> cases e' <;> simp_all [EvS, Ev.val]
theorem framesOf_eq : ∀ {es es' : List Ev} (ops : List Oper) (f : AFr), EsS es es' -> framesOf ops es' f = framesOf ops es f
 | [], [], ops, f, _ => rfl
 | e :: r, e' :: r', [], f, _ => rfl
 | e :: r, e' :: r', o :: ops, f, ⟨h1, h2⟩ => by
  simp only [framesOf, h1.val]
  cases putD f o.dst e.val with
  | none => rfl
  | some f' => exact framesOf_eq ops f' h2
 | [], _ :: _, _, _, h => h.elim
 | _ :: _, [], _, _, h => h.elim
theorem sameAt_fr {P : Program} {m : Nat} {as : Made} {o : Oper} {f : AFr} {v : Value} {X : Nat -> Option AO} {B : Nat} {T : ASt} (hid : ∀ x ∈ as, B ≤ x.2.1 ∧ x.2.1 < T.next ∧ X x.2.1 = none) : ∀ {l l' : List ASt}, StR X B T l l' -> sameAt P m as o f v l = true -> sameAt P m as o f v l' = true
 | [], [], _, h => h
 | s :: r, s' :: r', ⟨⟨h1, h2⟩, h3⟩, h => by
  have hid' : ∀ x ∈ as, B ≤ x.2.1 ∧ x.2.1 < s.next ∧ X x.2.1 = none := fun x hx => ⟨(hid x hx).1, by have := (hid x hx).2.1; have := h2.next; omega, (hid x hx).2.2⟩
  have hf := h1.fill h2.wf (fun x hx => (hid' x hx).2) (Nat.testBit m)
  have kf := KeepB.fill (B := B) h2.wf (fun x hx => ⟨(hid' x hx).1, (hid' x hx).2.1⟩) (Nat.testBit m)
  simp only [sameAt] at h ⊢
  split at h
  ·rename_i u t hop
   obtain ⟨t', k1, _, _⟩ := aop_fr hf kf.wf hop
   simp only [k1]
   rw [Bool.and_eq_true] at h ⊢
   exact ⟨h.1, sameAt_fr hid h3 h.2⟩
  ·cases h
 | [], _ :: _, h, _ => h.elim
 | _ :: _, [], h, _ => h.elim
theorem checkAll_fr {P : Program} {all : List Oper} {ms : List Nat} {as : Made} {X : Nat -> Option AO} {B : Nat} {T : ASt} (hid : ∀ x ∈ as, B ≤ x.2.1 ∧ x.2.1 < T.next ∧ X x.2.1 = none) {l l' : List ASt} (hst : StR X B T l l') :
  ∀ (mr : List Nat) (ops : List Oper) (es es' : List Ev) (i : Nat) (f : AFr), EsS es es' -> checkAll P all ms as l mr ops es i f = true -> checkAll P all ms as l' mr ops es' i f = true := by
 intro mr
 induction mr with
 | nil => intro ops es es' i f _ h; simp only [checkAll]
 | cons m mr ih =>
  intro ops es es' i f hes h
  cases ops with
  | nil => simp only [checkAll]
  | cons o ops =>
   cases es with
   | nil => cases es' with
    | nil => exact h
    | cons _ _ => exact hes.elim
   | cons e es =>
    cases es' with
    | nil => exact hes.elim
    | cons e' es' =>
     obtain ⟨h1, h2⟩ := hes
     simp only [checkAll, Bool.and_eq_true] at h ⊢
     rw [h1.val]
     obtain ⟨ha, hb⟩ := h
     refine ⟨?_, ?_⟩
     ·cases e <;> cases e' <;> first
       | exact h1.elim
       | rfl
       | skip
      rename_i v v'
      obtain rfl : v = v' := h1
      exact sameAt_fr hid ((hst.take _).drop _) ha
     ·cases hp : putD f o.dst e.val with
      | none => rw [hp] at hb; cases hb
      | some f' => rw [hp] at hb; exact ih ops es es' (i + 1) f' h2 hb
theorem Adds.up {s s' : ASt} {X : Nat -> Option AO} (h : Adds s s' X) (n : Nat) : Adds ⟨s.heap, s.next + n⟩ ⟨s'.heap, s'.next + n⟩ X :=
 ⟨by simp only [h.next], fun j o hj => ⟨(h.free j o hj).1, by have := (h.free j o hj).2; simp only; omega⟩, h.get⟩
theorem drawRun_fr {P : Program} {call : Call} (hc : CallFr call) {ops : List Oper} {f f1 : AFr} {s s' t : ASt} {X : Nat -> Option AO} (h : Adds s s' X) (hw : WF s) (hr : drawRun P call ops f s = some (f1, t)) :
  ∃ t', drawRun P call ops f s' = some (f1, t') ∧ Adds t t' X ∧ Keeps s t := by
 unfold drawRun at *
 rw [h.next]
 split at hr
 ·cases hr
 rename_i hle
 split at hr
 case h_2 => cases hr
 rename_i es hd
 split at hr
 case h_2 => cases hr
 rename_i hck
 injection hr with hr; injection hr with e1 e2; subst e1; subst e2
 have hle' : 0 ≤ 16000000 := by omega
 have hwu : WF ⟨s.heap, s.next + allocs P ops⟩ := ⟨hle', fun j o hj => by have := hw.bound j o hj; simp only; omega⟩
 have hup := h.up (allocs P ops)
 rw [h.next] at hup
 have hX : ∀ j o, X j = some o -> j < s.next := fun j o hj => (h.free j o hj).2
 obtain ⟨es', k1, k2, k3, k4⟩ := drawOps_fr hc hX _ ops 0 s.next f _ _ [] es hup hwu (Nat.le_refl _) (Nat.le_refl _) (fun x hx => by cases hx) hd
 have hXn : ∀ k, s.next ≤ k -> X k = none := fun k hk => by
  cases hx : X k with
  | none => rfl
  | some o => have := hX k o hx; omega
 have hid : ∀ x ∈ madeOf es 0, s.next ≤ x.2.1 ∧ x.2.1 < (⟨s.heap, s.next + allocs P ops⟩ : ASt).next ∧ X x.2.1 = none := fun x hx => ⟨(k4 x hx).1, (k4 x hx).2, hXn _ (k4 x hx).1⟩
 simp only [k1, madeOf_eq 0 k2, checkAll_fr hid k3 _ ops es es' 0 f k2 hck, framesOf_eq ops f k2]
 have hlen : ∀ (ops : List Oper) (es : List Ev) (T : ASt), stagesOf P ops es T ≠ [] := by
  intro ops
  induction ops with
  | nil => intro es T; cases es <;> simp [stagesOf]
  | cons o ops ih =>
   intro es T
   cases es with
   | nil => simp [stagesOf]
   | cons e es =>
    simp only [stagesOf]
    cases e <;> first
     | (simp; done)
     | (dsimp only; split <;> first | (simp; done) | exact ih _ _)
 obtain ⟨a1, a2⟩ : Adds ((stagesOf P ops es ⟨s.heap, s.next + allocs P ops⟩).getLastD s) ((stagesOf P ops es' ⟨s'.heap, s.next + allocs P ops⟩).getLastD s') X ∧ KeepB s.next ⟨s.heap, s.next + allocs P ops⟩ ((stagesOf P ops es ⟨s.heap, s.next + allocs P ops⟩).getLastD s) := by
  have := hlen ops es ⟨s.heap, s.next + allocs P ops⟩
  have := hlen ops es' ⟨s'.heap, s.next + allocs P ops⟩
  generalize stagesOf P ops es ⟨s.heap, s.next + allocs P ops⟩ = l at *
  generalize stagesOf P ops es' ⟨s'.heap, s.next + allocs P ops⟩ = l' at *
  cases l with
  | nil => contradiction
  | cons x r =>
   cases l' with
   | nil => contradiction
   | cons x' r' =>
    rw [List.getLastD_cons, List.getLastD_cons]
    exact StR.last k3.2 k3.1.1 k3.1.2
 have hid2 : ∀ x ∈ madeOf es 0, s.next ≤ x.2.1 ∧ x.2.1 < ((stagesOf P ops es ⟨s.heap, s.next + allocs P ops⟩).getLastD s).next := fun x hx => ⟨(hid x hx).1, Nat.lt_of_lt_of_le (hid x hx).2.1 a2.next⟩
 refine ⟨_, rfl, a1.fill a2.wf (fun x hx => ⟨(hid2 x hx).2, (hid x hx).2.2⟩) _, ?_⟩
 have kk := a2.trans (KeepB.fill a2.wf hid2 (fun _ => true))
 exact ⟨Nat.le_trans (Nat.le_add_right _ _) kk.next, kk.gone, kk.here, kk.wf⟩
def ExecFr (ex : Code -> AFr -> ASt -> Out) : Prop := ∀ (c : Code) (f f1 : AFr) (x : AX) (s s' t : ASt) (X : Nat -> Option AO), Adds s s' X -> WF s -> ex c f s = some (x, f1, t) -> ∃ t', ex c f s' = some (x, f1, t') ∧ Adds t t' X ∧ Keeps s t
theorem resultsA_fr {P : Program} {f : AFr} {s s' : ASt} {X : Nat -> Option AO} (h : Adds s s' X) : ∀ {l : List ResultVar} {vs : List Value}, resultsA P f s l = some vs -> resultsA P f s' l = some vs := by
 intro l
 induction l with
 | nil => intro vs hv; exact hv
 | cons r l ih =>
  intro vs hv
  cases r with
  | tmp t =>
   simp only [resultsA] at hv ⊢
   split at hv
   ·rename_i ht
    rw [if_pos ht]
    split at hv
    ·rename_i m hm; rw [ih hm]; exact hv
    ·cases hv
   ·cases hv
  | cell a t =>
   simp only [resultsA] at hv ⊢
   split at hv
   ·rename_i ht
    rw [if_pos ht]
    split at hv
    ·rename_i v m h1 h2; rw [loadA_fr h h1, ih h2]; exact hv
    ·cases hv
   ·cases hv
def PrimFr (p : Prim) : Prop := ∀ (s s' : ASt) (X : Nat -> Option AO) (args : List Value) (v : Value) (t : ASt), Adds s s' X -> WF s -> p args s = some (v, t) -> ∃ t', p args s' = some (v, t') ∧ Adds t t' X ∧ Keeps s t
def LibFr (lib : Prims) : Prop := ∀ g p, lib.at g = some p -> PrimFr p
theorem LibFr.nil : LibFr [] := fun _ _ h => by cases h
theorem callStep_fr {P : Program} {lib : Prims} (hl : LibFr lib) {ex : Code -> AFr -> ASt -> Out} (he : ExecFr ex) : CallFr (callStep P lib ex) := by
 intro s s' X g args v t h hw hc
 unfold callStep at *
 split at hc
 ·rename_i p hp
  exact hl g p hp _ _ _ _ _ _ h hw hc
 split at hc
 case h_2 => cases hc
 split at hc
 case h_2 => cases hc
 split at hc
 ·rename_i f s1 hx
  obtain ⟨t', k1, k2, k3⟩ := he _ _ _ _ _ _ _ _ h hw hx
  simp only [k1]
  split at hc
  ·rename_i l hl
   injection hc with hc; injection hc with e1 e2; subst e1; subst e2
   exact ⟨t', by rw [resultsA_fr k2 hl], k2, k3⟩
  ·cases hc
 ·rename_i f s1 hx
  obtain ⟨t', k1, k2, k3⟩ := he _ _ _ _ _ _ _ _ h hw hx
  simp only [k1]
  split at hc
  ·rename_i l hl
   injection hc with hc; injection hc with e1 e2; subst e1; subst e2
   exact ⟨t', by rw [resultsA_fr k2 hl], k2, k3⟩
  ·cases hc
 ·cases hc
theorem exec_fr {P : Program} {lib : Prims} (hl : LibFr lib) : ∀ n, ExecFr (exec P lib n) := by
 intro n
 induction n with
 | zero => intro c f f1 x s s' t X _ _ h; simp [exec] at h
 | succ n ih =>
  have hc := callStep_fr (P := P) hl ih
  intro c f f1 x s s' t X h hw hx
  have leaf : ∀ y, some (y, f, s) = some (x, f1, t) -> ∃ t', some (y, f, s') = some (x, f1, t') ∧ Adds t t' X ∧ Keeps s t := by
   intro y e
   injection e with e; injection e with e1 e2; injection e2 with e2 e3; subst e1; subst e2; subst e3
   exact ⟨s', rfl, h, Keeps.refl hw⟩
  have two : ∀ (a b : Code), (match exec P lib n a f s with
    | some (.normal, f', s') => exec P lib n b f' s'
    | r => r) = some (x, f1, t) -> ∃ t', (match exec P lib n a f s' with
    | some (.normal, f', s') => exec P lib n b f' s'
    | r => r) = some (x, f1, t') ∧ Adds t t' X ∧ Keeps s t := by
   intro a b hx
   split at hx
   ·rename_i f2 s2 h1
    obtain ⟨t2, k1, k2, k3⟩ := ih _ _ _ _ _ _ _ _ h hw h1
    obtain ⟨t', j1, j2, j3⟩ := ih _ _ _ _ _ _ _ _ k2 k3.wf hx
    exact ⟨t', by simp only [k1]; exact j1, j2, k3.trans j3⟩
   ·rename_i hn
    obtain ⟨t', k1, k2, k3⟩ := ih _ _ _ _ _ _ _ _ h hw hx
    refine ⟨t', ?_, k2, k3⟩
    rw [k1]
    cases x with
    | normal => exact absurd hx (hn _ _)
    | exit _ => rfl
    | ret => rfl
  cases c <;> simp only [exec, step] at hx ⊢
  case skip => exact leaf _ hx
  case label l => exact leaf _ hx
  case exit id => exact leaf _ hx
  case ret => exact leaf _ hx
  case region id ops d =>
   cases d with
   | false =>
    simp only at hx ⊢
    split at hx
    ·rename_i f2 s2 h1
     injection hx with e; injection e with e1 e2; injection e2 with e2 e3; subst e1; subst e2; subst e3
     obtain ⟨t', k1, k2, k3⟩ := runOps_fr hc _ _ h hw h1
     exact ⟨t', by rw [k1], k2, k3⟩
    ·cases hx
   | true =>
    simp only at hx ⊢
    split at hx
    ·rename_i f2 s2 h1
     injection hx with e; injection e with e1 e2; injection e2 with e2 e3; subst e1; subst e2; subst e3
     obtain ⟨t', k1, k2, k3⟩ := drawRun_fr hc h hw h1
     exact ⟨t', by rw [k1], k2, k3⟩
    ·cases hx
  case seq a b => exact two a b hx
  case loop a => exact two a _ hx
  case scope a => exact ih _ _ _ _ _ _ _ _ h hw hx
  case cond y a b =>
   split at hx
   ·rename_i b0 hy
    split at hx <;> exact ih _ _ _ _ _ _ _ _ h hw hx
   ·cases hx
  case block id a =>
   split at hx
   ·rename_i j f2 s2 h1
    obtain ⟨t2, k1, k2, k3⟩ := ih _ _ _ _ _ _ _ _ h hw h1
    simp only [k1]
    split at hx <;>
    ·rename_i hj
     injection hx with e; injection e with e1 e2; injection e2 with e2 e3; subst e1; subst e2; subst e3
     exact ⟨t2, by simp only [hj, if_true, if_false, Bool.false_eq_true], k2, k3⟩
   ·rename_i hn
    obtain ⟨t', k1, k2, k3⟩ := ih _ _ _ _ _ _ _ _ h hw hx
    refine ⟨t', ?_, k2, k3⟩
    rw [k1]
    cases x with
    | normal => rfl
    | exit _ => exact absurd hx (hn _ _ _)
    | ret => rfl
  all_goals cases hx
end Go.Cl
namespace Go.Cl
open Go.RowKit
theorem evalA_congr {f g : AFr} (hn : f.n = g.n) {x : Operand} (h : ∀ t : Nat, x = .tmp t -> f.get t = g.get t) : evalA f x = evalA g x := by
 cases x with
 | tmp t => simp only [evalA, hn, h t rfl]
 | const v => rfl
 | global v => rfl
 | func v => rfl
theorem evalAll_congr {f g : AFr} : ∀ {l : List Operand}, (∀ x ∈ l, evalA f x = evalA g x) -> evalAll f l = evalAll g l
 | [], _ => rfl
 | x :: r, h => by
  simp only [evalAll, h x (List.mem_cons_self ..), evalAll_congr (fun y hy => h y (List.mem_cons_of_mem _ hy))]
theorem partsA_congr {f g : AFr} : ∀ {l : List (Nat × Operand)}, (∀ x ∈ l, evalA f x.2 = evalA g x.2) -> partsA f l = partsA g l
 | [], _ => rfl
 | x :: r, h => by
  obtain ⟨i, x⟩ := x
  simp only [partsA, h (i, x) (List.mem_cons_self ..), partsA_congr (fun y hy => h y (List.mem_cons_of_mem _ hy))]
theorem optA_congr {f g : AFr} {x : Option Operand} (h : ∀ y, x = some y -> evalA f y = evalA g y) : optA f x = optA g x := by
 cases x with
 | none => rfl
 | some y => simp only [optA, h y rfl]
theorem aop_congr {P : Program} {o : Oper} {f g : AFr} (hn : f.n = g.n) (h : ∀ t : Nat, Operand.tmp t ∈ o.op.operands.toList -> f.get t = g.get t) (s : ASt) : aop P o f s = aop P o g s := by
 have ev : ∀ x ∈ o.op.operands.toList, evalA f x = evalA g x := fun x hx => evalA_congr hn (fun t ht => h t (by rw [← ht]; exact hx))
 clear h
 obtain ⟨dst, op, type, pos, after, guard⟩ := o
 cases op <;> simp only [Op.operands] at ev
 case call c =>
  obtain ⟨callee, args, ts⟩ := c
  have ea : evalAll f args.toList = evalAll g args.toList := evalAll_congr (fun x hx => ev x (by simp only [Call.operands, Array.toList_append]; exact List.mem_append_right _ hx))
  cases callee with
  | value y =>
   have ey := ev y (by simp [Call.operands])
   simp only [aop, ea, ey]
  | builtin b => simp only [aop, ea]
  | invoke y m => simp only [aop, ea]
 case makeFunc fn first captured =>
  have e1 : evalAll f first.toList = evalAll g first.toList := evalAll_congr (fun x hx => ev x (by rw [Array.toList_append]; exact List.mem_append_left _ hx))
  have e2 : evalAll f captured.toList = evalAll g captured.toList := evalAll_congr (fun x hx => ev x (by rw [Array.toList_append]; exact List.mem_append_right _ hx))
  cases fn <;> simp only [aop, e1, e2]
 case build t ps =>
  have e1 : partsA f ps.toList = partsA g ps.toList := partsA_congr (fun x hx => ev x.2 (by simpa using ⟨x.1, by simpa using hx⟩))
  simp only [aop, e1]
 case buildSlice t n ps =>
  have e1 : partsA f ps.toList = partsA g ps.toList := partsA_congr (fun x hx => ev x.2 (by simpa using ⟨x.1, by simpa using hx⟩))
  simp only [aop, e1]
 case slice t x l hi m =>
  have e0 := ev x (by simp)
  have e1 : optA f l = optA g l := optA_congr (fun y hy => ev y (by simp [hy]))
  have e2 : optA f hi = optA g hi := optA_congr (fun y hy => ev y (by simp [hy]))
  have e3 : optA f m = optA g m := optA_congr (fun y hy => ev y (by simp [hy]))
  simp only [aop, e0, e1, e2, e3]
 all_goals first
  | rfl
  | (simp only [aop]; simp at ev; simp only [ev]; done)
  | (simp at ev; obtain ⟨e1, e2⟩ := ev; simp only [aop, e1, e2]; done)
  | (simp at ev; obtain ⟨e1, e2, e3⟩ := ev; simp only [aop, e1, e2, e3]; done)
  | (rename_i r; cases r <;> rfl)
theorem wantedA_congr {ops : List Oper} {o : Oper} {f g : AFr} (hn : f.n = g.n) (h : ∀ t : Nat, t ∈ seenBy ops o -> f.get t = g.get t) : wantedA ops o f = wantedA ops o g := by
 unfold wantedA
 cases hg : o.guard with
 | none => rfl
 | some p =>
  obtain ⟨j, want⟩ := p
  have : yieldA ops f j = yieldA ops g j := by
   unfold yieldA
   cases hd : ops.drop j with
   | nil => rfl
   | cons p r =>
    simp only
    cases hpd : p.dst with
    | none => rfl
    | some d =>
     simp only [hn]
     rw [h d (by simp [seenBy, hg, hd, hpd])]
  simp only [this]
theorem alloc_ok {P : Program} {base : Nat} {S : St} (h : SR base S) {f : AFr} {a : Act} (hf : FR S f a) {o : Oper} (ha : allocOp P o = true) {id : Nat} (hsp : Spot S id S.s.next) {v : Value} {s1 : ASt} {b : Blk}
  (hx : aop P o f ⟨.nil, id⟩ = some (.val v s1)) (hb : s1.blk? id = some b) :
  ∃ T v', T.s = S.s.put id (.blk b) ∧ VR T v v' ∧ Good base S T ∧ (execOp a.eval o).run P S.w = .ok (.value v') T.w := by
 have hid : 0 < 16000001 := by have := hsp.lt; have := h.room; omega
 have fin : ∀ (m : Sem Value), execOp a.eval o = (do pure (Next.value (← m))) -> DoesAt P base S m v ⟨.nil, id⟩ s1 S.s.next -> ∃ T v', T.s = S.s.put id (.blk b) ∧ VR T v v' ∧ Good base S T ∧ (execOp a.eval o).run P S.w = .ok (.value v') T.w := by
  intro m he hd
  obtain ⟨b', e, T, v', h1, h2, h3, h4⟩ := hd
  have hb' : s1.blk? id = some b' := by rw [e]; simp only [ASt.blk?, ASt.new, Tr.get_set_self _ _ _ _ (deep hid)]
  rw [hb] at hb'
  obtain rfl := Option.some.inj hb'
  exact ⟨T, v', h1, h3, h4, by rw [he]; exact run_v h2⟩
 have pinv : ∀ r, pOf r = some (.val v s1) -> r = some (v, s1) := by
  intro r hr
  cases r with
  | none => simp [pOf] at hr
  | some p =>
   obtain ⟨v2, s2⟩ := p
   simp only [pOf] at hr
   injection hr with hr; injection hr with e1 e2; rw [e1, e2]
 obtain ⟨dst, op, type, pos, after, guard⟩ := o
 cases op <;> try (cases ha; done)
 case alloc e =>
  simp only [aop] at hx
  split at hx
  ·rename_i z hz
   split at hx
   ·rename_i hp
    exact fin _ rfl (alloc_at h (s0 := ⟨.nil, id⟩) hsp hz hp (pinv _ hx))
   ·cases hx
  ·cases hx
 case box e y =>
  simp only [aop] at hx
  split at hx
  ·rename_i u hu
   exact fin _ rfl (box_at h (s0 := ⟨.nil, id⟩) hsp (evalA_ok hf hu) (pinv _ hx))
  ·cases hx
 case buildSlice t n ps =>
  simp only [aop] at hx
  split at hx
  ·rename_i l hl
   have hbs : buildSliceA P ⟨.nil, id⟩ t n l = some (v, s1) := pinv _ hx
   have := buildSliceA_at (P := P) h (s0 := ⟨.nil, id⟩) (next := S.s.next) hsp (partsA_ok hf hl) hbs
   have e : (ps.map fun (x : Nat × Operand) => (x.1, a.eval x.2)) = (ps.toList.map fun x => (x.1, a.eval x.2)).toArray := by rw [← Array.toList_inj]; simp
   refine fin (Instr.buildSlice t n (ps.map fun (i, x) => (i, a.eval x))) (by simp only [execOp]) ?_
   rw [e]; exact this
  ·cases hx
 case convert s d y =>
  simp only [aop] at hx
  simp only [allocOp] at ha
  split at hx
  ·rename_i u hu
   exact fin _ rfl (textConv_at h (s0 := ⟨.nil, id⟩) hsp (evalA_ok hf hu) (pinv _ hx) ha)
  ·cases hx
 case makeSlice t y z =>
  simp only [aop] at hx
  split at hx
  ·rename_i u w hu hw
   exact fin (Instr.makeSlice t (a.eval y) (a.eval z)) rfl (makeSliceA_at h (s0 := ⟨.nil, id⟩) hsp (evalA_ok hf hu) (evalA_ok hf hw) (pinv _ hx))
  ·cases hx
theorem maskOf_inv {acc : List Nat} : ∀ {l : List Edge} {m x : Nat}, Nat.testBit (maskOf acc l m) x = true -> Nat.testBit m x = true ∨ ∃ e ∈ l, Region.binds .any e = true ∧ (x = e.on ∨ Nat.testBit (nth0 acc e.on) x = true)
 | [], _, _, h => .inl h
 | e :: r, m, x, h => by
  simp only [maskOf] at h
  rcases maskOf_inv h with h1 | ⟨e', h1, h2⟩
  ·split at h1
   ·rename_i hb
    simp only [Nat.testBit_or, Bool.or_eq_true, Nat.testBit_two_pow, decide_eq_true_eq] at h1
    rcases h1 with (h1 | h1) | h1
    ·exact .inl h1
    ·exact .inr ⟨e, List.mem_cons_self .., hb, .inl h1.symm⟩
    ·exact .inr ⟨e, List.mem_cons_self .., hb, .inr h1⟩
   ·exact .inl h1
  ·exact .inr ⟨e', List.mem_cons_of_mem _ h1, h2⟩
theorem nth0_append (l m : List Nat) : ∀ i, i < l.length -> nth0 (l ++ m) i = nth0 l i := by
 induction l with
 | nil => intro i h; simp at h
 | cons x r ih =>
  intro i h
  cases i with
  | zero => rfl
  | succ k => exact ih k (by simpa using h)
theorem nth0_at (l : List Nat) (x : Nat) (m : List Nat) : nth0 (l ++ x :: m) l.length = x := by
 induction l with
 | nil => rfl
 | cons _ r ih => exact ih
theorem masks_pre : ∀ (ops : List Oper) (acc : List Nat), ∃ r, masks ops acc = acc ++ r ∧ r.length = ops.length
 | [], acc => ⟨[], by simp [masks], rfl⟩
 | o :: ops, acc => by
  obtain ⟨r, h1, h2⟩ := masks_pre ops (acc ++ [maskOf acc o.after.toList 0])
  exact ⟨maskOf acc o.after.toList 0 :: r, by simp [masks, h1], by simp [h2]⟩
theorem masks_spec : ∀ (ops : List Oper) (acc : List Nat) (k : Nat) (o : Oper), ops[k]? = some o -> ∃ acc', (∀ j, j < acc.length + k -> nth0 acc' j = nth0 (masks ops acc) j) ∧ nth0 (masks ops acc) (acc.length + k) = maskOf acc' o.after.toList 0
 | [], _, _, _, h => by simp at h
 | p :: ops, acc, 0, o, h => by
  simp only [List.getElem?_cons_zero, Option.some.injEq] at h
  subst h
  obtain ⟨r, h1, h2⟩ := masks_pre ops (acc ++ [maskOf acc p.after.toList 0])
  refine ⟨acc, fun j hj => ?_, ?_⟩
  ·simp only [masks, h1, List.append_assoc]
   rw [nth0_append _ _ _ (by simpa using hj)]
  ·simp only [masks, h1, List.append_assoc, Nat.add_zero]
   exact nth0_at _ _ _
 | p :: ops, acc, k + 1, o, h => by
  simp only [List.getElem?_cons_succ] at h
  obtain ⟨acc', h1, h2⟩ := masks_spec ops (acc ++ [maskOf acc p.after.toList 0]) k o h
  simp only [List.length_append, List.length_singleton] at h1 h2
  refine ⟨acc', fun j hj => ?_, ?_⟩
  ·simp only [masks]; exact h1 j (by omega)
  ·simp only [masks]; rw [← h2]; congr 1; omega
theorem allocs_take : ∀ (ops : List Oper) {P : Program} (k k' : Nat) {o : Oper}, ops[k]? = some o -> allocOp P o = true -> k < k' -> allocs P (ops.take k) < allocs P (ops.take k')
 | [], _, _, _, _, h, _, _ => by simp at h
 | p :: ops, P, 0, k' + 1, o, h, ha, _ => by
  simp only [List.getElem?_cons_zero, Option.some.injEq] at h
  subst h
  simp [allocs, ha]
 | p :: ops, P, k + 1, k' + 1, o, h, ha, hk => by
  simp only [List.getElem?_cons_succ] at h
  have := allocs_take ops k k' h ha (by omega)
  simp only [List.take_succ_cons, allocs]
  split <;> omega
 | _ :: _, _, _, 0, _, _, _, h => by omega
theorem countP_none {P : Program} {p : Nat -> Bool} : ∀ (ops : List Oper) (i : Nat), (∀ j, i ≤ j -> p j = false) -> countP p P ops i = 0
 | [], _, _ => rfl
 | o :: r, i, h => by simp only [countP, h i (Nat.le_refl _), Bool.and_false, Bool.false_eq_true, if_false]; exact countP_none r (i + 1) (fun j hj => h j (by omega))
theorem countP_mono {P : Program} {p q : Nat -> Bool} : ∀ (ops : List Oper) (i : Nat), (∀ k o, ops[k]? = some o -> effectOp P o = true -> p (i + k) = true -> q (i + k) = true) -> countP p P ops i ≤ countP q P ops i
 | [], _, _ => Nat.le_refl _
 | o :: r, i, h => by
  have ih := countP_mono (p := p) (q := q) r (i + 1) (fun k o ho he hp => by have := h (k + 1) o (by simpa using ho) he (by rw [show i + (k + 1) = i + 1 + k by omega]; exact hp); rwa [show i + (k + 1) = i + 1 + k by omega] at this)
  have h0 := h 0 o rfl
  simp only [countP]
  cases he : effectOp P o with
  | false => simpa [he] using ih
  | true =>
   cases hp : p i with
   | false => simp only [Bool.true_and, Bool.false_eq_true, if_false]; split <;> omega
   | true =>
    have := h0 he hp
    simp only [Nat.add_zero] at this
    simp [this]; exact ih
theorem putD_n {f f' : AFr} {d : Option Tmp} {v : Value} (h : putD f d v = some f') : f'.n = f.n := by
 unfold putD at h
 split at h
 ·split at h
  ·injection h with h; subst h; rfl
  ·cases h
 ·injection h with h; subst h; rfl
def Ev.after (e : Ev) (T : ASt) : ASt :=
 match e with
 | .eff _ s => s
 | _ => T
def Ev.more (e : Ev) (i : Nat) (as : Made) : Made :=
 match e with
 | .made _ d b => as ++ [(i, d, b)]
 | _ => as
theorem blt_false {i j : Nat} (h : i ≤ j) : Nat.blt j i = false := by
 cases hb : Nat.blt j i
 ·rfl
 ·rw [Nat.blt_eq] at hb; omega
theorem drawOps_spec {P : Program} {call : Call} {all : List Oper} : ∀ (ops : List Oper) (ms : List Nat) (i id : Nat) (f : AFr) (T : ASt) (as : Made) (es : List Ev), ms.length = ops.length -> drawOps P call all ms ops i id f T as = some es ->
  es.length = ops.length ∧ ∃ (F : Nat -> AFr) (G : Nat -> ASt), F 0 = f ∧ G 0 = T ∧ framesOf ops es f = F ops.length ∧
   (∀ p, p ≤ ops.length -> (stagesOf P ops es T)[countP (fun j => Nat.blt j (i + p)) P ops i]? = some (G p)) ∧ (∀ d, (stagesOf P ops es T).getLastD d = G ops.length) ∧
   ∀ k o, ops[k]? = some o -> ∃ e, es[k]? = some e ∧ drawOp P call all (nth0 ms k) (id + allocs P (ops.take k)) (as ++ madeOf (es.take k) i) o (F k) (G k) = some e ∧
    putD (F k) o.dst e.val = some (F (k + 1)) ∧ G (k + 1) = e.after (G k) := by
 intro ops
 induction ops with
 | nil =>
  intro ms i id f T as es hl hd
  cases ms with
  | cons _ _ => simp at hl
  | nil =>
   simp only [drawOps] at hd
   injection hd with hd; subst hd
   exact ⟨rfl, fun _ => f, fun _ => T, rfl, rfl, rfl, fun p hp => rfl, fun d => rfl, fun k o h => by simp at h⟩
 | cons o ops ih =>
  intro ms i id f T as es hl hd
  cases ms with
  | nil => simp at hl
  | cons m ms =>
   simp only [drawOps] at hd
   split at hd
   ·rename_i e he
    split at hd
    ·rename_i f' hp
     split at hd
     ·rename_i es1 hd1
      injection hd with hd; subst hd
      obtain ⟨h1, F, G, h2, h3, h4, h5, h6, h7⟩ := ih ms (i + 1) _ f' (e.after T) _ es1 (by simpa using hl) hd1
      have heff : ∀ v s, e = .eff v s -> effectOp P o = true := by
       intro v s hee
       subst hee
       unfold drawOp at he
       split at he
       ·cases he
       ·split at he
        ·split at he <;> cases he
        ·split at he
         ·split at he <;> cases he
         ·cases he
        ·rename_i hq ha; simp [effectOp, hq, ha]
      refine ⟨by simp [h1], fun k => match k with | 0 => f | k + 1 => F k, fun k => match k with | 0 => T | k + 1 => G k, rfl, rfl, ?_, ?_, ?_, ?_⟩
      ·simp only [framesOf, hp, List.length_cons]; exact h4
      ·intro p hp'
       have hst : stagesOf P (o :: ops) (e :: es1) T = if effectOp P o then T :: stagesOf P ops es1 (e.after T) else stagesOf P ops es1 (e.after T) := by
        cases e with
        | eff v s => simp only [stagesOf, heff v s rfl, if_true]; rfl
        | skip => rfl
        | quiet _ => rfl
        | made _ _ _ => rfl
       cases p with
       | zero =>
        have h0 := countP_none (P := P) (p := fun j => Nat.blt j (i + 0)) (o :: ops) i (fun j hj => blt_false (by omega))
        rw [h0, hst]
        split
        ·rfl
        ·have e0 : (e.after T) = T := by
          rename_i hne
          cases e <;> try rfl
          exact absurd (heff _ _ rfl) hne
         have := h5 0 (Nat.zero_le _)
         rw [countP_none (P := P) (p := fun j => Nat.blt j (i + 1 + 0)) ops (i + 1) (fun j hj => blt_false (by omega))] at this
         rw [this, h3, e0]
       | succ p =>
        have := h5 p (by simpa using hp')
        have hc : countP (fun j => Nat.blt j (i + (p + 1))) P (o :: ops) i = if effectOp P o then countP (fun j => Nat.blt j (i + 1 + p)) P ops (i + 1) + 1 else countP (fun j => Nat.blt j (i + 1 + p)) P ops (i + 1) := by
         have e1 : (fun j => Nat.blt j (i + (p + 1))) = fun j => Nat.blt j (i + 1 + p) := by rw [show i + (p + 1) = i + 1 + p by omega]
         rw [e1]
         simp only [countP]
         have : Nat.blt i (i + 1 + p) = true := by simp [Nat.blt_eq]; omega
         simp only [this, Bool.and_true]
        rw [hc, hst]
        split
        ·simp only [List.getElem?_cons_succ]; exact this
        ·exact this
      ·intro d
       simp only [List.length_cons]
       rw [← h6 d]
       have hne : stagesOf P ops es1 (e.after T) ≠ [] := by
        intro hn
        have := h5 0 (Nat.zero_le _)
        rw [hn] at this; simp at this
       have hl2 : ∀ x : ASt, (x :: stagesOf P ops es1 (e.after T)).getLastD d = (stagesOf P ops es1 (e.after T)).getLastD d := by
        intro x
        rw [List.getLastD_cons]
        generalize stagesOf P ops es1 (e.after T) = l at hne
        cases l with
        | nil => exact absurd rfl hne
        | cons y r => rw [List.getLastD_cons, List.getLastD_cons]
       simp only [stagesOf]
       cases e <;> simp only at hl2 ⊢ <;> first
        | exact hl2 T
        | (split
           ·exact hl2 T
           ·rfl)
      ·intro k o' hk
       cases k with
       | zero =>
        simp only [List.getElem?_cons_zero, Option.some.injEq] at hk
        subst hk
        exact ⟨e, rfl, by simpa [nth0, allocs, madeOf] using he, by simpa [h2] using hp, by simpa using h3⟩
       | succ k =>
        simp only [List.getElem?_cons_succ] at hk
        obtain ⟨e', k1, k2, k3, k4⟩ := h7 k o' hk
        refine ⟨e', by simpa using k1, ?_, k3, k4⟩
        have ea : (if allocOp P o then id + 1 else id) + allocs P (ops.take k) = id + allocs P ((o :: ops).take (k + 1)) := by
         simp only [List.take_succ_cons, allocs]; split <;> omega
        have em : e.more i as ++ madeOf (es1.take k) (i + 1) = as ++ madeOf ((e :: es1).take (k + 1)) i := by
         simp only [List.take_succ_cons]
         cases e <;> simp [madeOf, Ev.more]
        rw [← ea, ← em]
        exact k2
     ·cases hd
    ·cases hd
   ·cases hd
theorem checkAll_spec {P : Program} {all : List Oper} {ms : List Nat} {as : Made} {sts : List ASt} : ∀ (k : Nat) (mr : List Nat) (ops : List Oper) (es : List Ev) (i : Nat) (F : Nat -> AFr), mr.length = ops.length -> checkAll P all ms as sts mr ops es i (F 0) = true ->
  (∀ k o e, ops[k]? = some o -> es[k]? = some e -> putD (F k) o.dst e.val = some (F (k + 1))) -> ∀ o v, ops[k]? = some o -> es[k]? = some (.quiet v) ->
  sameAt P (nth0 mr k) as o (F k) v ((sts.take (countP (fun j => !Nat.testBit (nth0 ms j) (i + k)) P all 0 + 1)).drop (countP (Nat.testBit (nth0 mr k)) P all 0)) = true := by
 intro k
 induction k with
 | zero =>
  intro mr ops es i F hl h hF o v ho he
  cases ops with
  | nil => simp at ho
  | cons p ops =>
   cases mr with
   | nil => simp at hl
   | cons m mr =>
    cases es with
    | nil => simp at he
    | cons e es =>
     simp only [List.getElem?_cons_zero, Option.some.injEq] at ho he
     subst ho; subst he
     simp only [checkAll, Bool.and_eq_true] at h
     exact h.1
 | succ k ih =>
  intro mr ops es i F hl h hF o v ho he
  cases ops with
  | nil => simp at ho
  | cons p ops =>
   cases mr with
   | nil => simp at hl
   | cons m mr =>
    cases es with
    | nil => simp at he
    | cons e es =>
     have h0 := hF 0 p e rfl rfl
     simp only [checkAll, Bool.and_eq_true, h0] at h
     have := ih mr ops es (i + 1) (fun k => F (k + 1)) (by simpa using hl) h.2 (fun k o e ho he => hF (k + 1) o e (by simpa using ho) (by simpa using he)) o v (by simpa using ho) (by simpa using he)
     rw [show i + 1 + k = i + (k + 1) by omega] at this
     exact this
theorem sameAt_mem {P : Program} {m : Nat} {as : Made} {o : Oper} {f : AFr} {v : Value} : ∀ {l : List ASt} {T : ASt}, sameAt P m as o f v l = true -> T ∈ l -> ∃ u t, aop P o f (fill (Nat.testBit m) T as) = some (.val u t) ∧ valEq v u = true
 | [], _, _, h => by cases h
 | s :: r, T, h, hT => by
  simp only [sameAt] at h
  split at h
  ·rename_i u t hop
   rw [Bool.and_eq_true] at h
   rcases List.mem_cons.1 hT with rfl | hT
   ·exact ⟨u, t, hop, h.1⟩
   ·exact sameAt_mem h.2 hT
  ·cases h
theorem valEq1_ok {a b : Value} (h : valEq1 a b = true) : a = b := by
 cases a <;> cases b <;> simp only [valEq1] at h <;> try (cases h; done)
 all_goals try rfl
 case bool a b => simpa using h
 case int k a k' b =>
  rw [Bool.and_eq_true] at h
  obtain ⟨h1, h2⟩ := h
  split at h1
  ·rename_i e; subst e; rw [beq_iff_eq] at h2; rw [h2]
  ·cases h1
 case string a b =>
  rw [beq_iff_eq] at h
  obtain ⟨⟨a⟩⟩ := a
  obtain ⟨⟨b⟩⟩ := b
  simp only at h
  rw [h]
 case pointer a b => split at h <;> first | (rename_i e; rw [e]) | cases h
 case map a b => split at h <;> first | (rename_i e; rw [e]) | cases h
 case slice a n c b m d =>
  simp only [Bool.and_eq_true] at h
  obtain ⟨⟨h1, h2⟩, h3⟩ := h
  split at h1
  ·rename_i e; rw [e, Nat.eq_of_beq_eq_true h2, Nat.eq_of_beq_eq_true h3]
  ·cases h1
theorem valEqL_ok : ∀ {a b : List Value}, valEqL a b = true -> a = b
 | [], [], _ => rfl
 | x :: r, y :: q, h => by
  simp only [valEqL, Bool.and_eq_true] at h
  rw [valEq1_ok h.1, valEqL_ok h.2]
 | [], _ :: _, h => by cases h
 | _ :: _, [], h => by cases h
theorem valEq2_ok {a b : Value} (h : valEq2 a b = true) : a = b := by
 unfold valEq2 at h
 split at h
 ·rw [Array.toList_inj.1 (valEqL_ok h)]
 ·exact valEq1_ok h
theorem valEqM_ok : ∀ {a b : List Value}, valEqM a b = true -> a = b
 | [], [], _ => rfl
 | a :: r, b :: q, h => by
  simp only [valEqM, Bool.and_eq_true] at h
  rw [valEq2_ok h.1, valEqM_ok h.2]
 | [], _ :: _, h => by simp [valEqM] at h
 | _ :: _, [], h => by simp [valEqM] at h
theorem valEq_ok {a b : Value} (h : valEq a b = true) : a = b := by
 unfold valEq at h
 split at h
 ·rw [Array.toList_inj.1 (valEqL_ok h)]
 ·rw [Array.toList_inj.1 (valEqM_ok h)]
 ·simp only [Bool.and_eq_true] at h
  obtain ⟨⟨h1, h2⟩, h3⟩ := h
  have h1' := Nat.eq_of_beq_eq_true h1
  rw [Array.toList_inj.1 (valEqL_ok h2), Array.toList_inj.1 (valEqL_ok h3)]
  exact congrArg (fun x => Value.func (Fn.func x) _ _) h1'
 ·exact valEq1_ok h
end Go.Cl
namespace Go.Cl
open Go.RowKit
abbrev Same (s t : ASt) : Prop := Adds s t (fun _ => none)
theorem Same.refl (s : ASt) : Same s s := ⟨rfl, (fun _ _ h => by cases h), fun _ => rfl⟩
theorem SR.wf {base : Nat} {S : St} (h : SR base S) : WF S.s := ⟨h.room, h.bound⟩
theorem Same.wf {s t : ASt} (h : Same s t) (hw : WF t) : WF s := ⟨hw.room, fun j o hj => by rw [← h.next]; exact hw.bound j o (by rw [h.get j]; exact hj)⟩
def PrimOk (P : Program) (Pre : Nat -> World -> Prop) (g : FuncId) (p : Prim) : Prop :=
 ∀ (base : Nat) (S : St) (s : ASt) (args : List Value) (v : Value) (s' : ASt), Same s S.s -> SR base S -> Pre base S.w -> p args s = some (v, s') -> ∀ args' : Array Value, VRL S args args'.toList ->
  ((∀ w, (callFunc g args').run P w = .ok (.enter g args') w) ∧ Calls P g args' S.w fun e w' => ∃ T v', Same s' T.s ∧ T.w = w' ∧ e = .returned v' ∧ VR T v v' ∧ Good base S T) ∨
  ∃ T v', (callFunc g args').run P S.w = .ok (.value v') T.w ∧ Same s' T.s ∧ VR T v v' ∧ Good base S T
def CallOk (P : Program) (Pre : Nat -> World -> Prop) (call : Call) : Prop := ∀ g, PrimOk P Pre g (call g)
def Stays (Pre : Nat -> World -> Prop) : Prop := ∀ base w w', Below base w w' -> Pre base w -> Pre base w'
theorem FR.put {S : St} {f f' : AFr} {a : Act} {d : Option Tmp} {v v' : Value} (hf : FR S f a) (hv : VR S v v') (h : putD f d v = some f') : FR S f' (a.put d v') := by
 unfold putD at h
 split at h
 ·rename_i t0
  obtain ⟨t, rfl⟩ : ∃ t : Nat, t = t0 := ⟨t0, rfl⟩
  split at h
  ·rename_i ht
   obtain rfl := Option.some.inj h
   have ht' : t < f.n := by simpa [Nat.blt_eq] using ht
   have hn := hf.n
   refine ⟨by simp [AFr.put, Act.put, hf.n], hf.small, fun u hu => ?_⟩
   have hu' : u < f.n := hu
   have hts : 0 < 16000001 := by have := hf.small; omega
   have hsz : t < a.tmps.size := by omega
   by_cases htu : t = u
   ·subst htu
    have e1 : (f.put t v).get t = v := by simp only [AFr.get, AFr.put, Tr.get_set_self _ _ _ _ (deep hts)]
    have e2 : (a.put (some t) v').tmps.getD t undef = v' := by
     simp [Act.put, hsz]
    rw [e1, e2]; exact hv
   ·have e1 : (f.put t v).get u = f.get u := by simp only [AFr.get, AFr.put, Tr.get_set_ne _ _ _ _ _ htu]
    have e2 : (a.put (some t) v').tmps.getD u undef = a.tmps.getD u undef := by
     simp [Act.put, Array.getElem?_setIfInBounds_ne htu]
    rw [e1, e2]; exact hf.get u hu'
  ·cases h
 ·obtain rfl := Option.some.inj h
  exact hf
theorem put_defers (a : Act) (d : Option Tmp) (v : Value) : (a.put d v).defers = a.defers := by cases d <;> rfl
theorem yield_eq {S : St} {f : AFr} {a : Act} (hf : FR S f a) (ops : List Oper) (j : Nat) : yieldA ops f j = yielded ops.toArray a.tmps j := by
 have hj : (ops.toArray)[j]? = (ops.drop j).head? := by rw [List.getElem?_toArray, List.head?_drop]
 unfold yieldA yielded
 rw [hj]
 cases ops.drop j with
 | nil => rfl
 | cons o r =>
  simp only [List.head?_cons, Option.bind_some]
  cases o.dst with
  | none => rfl
  | some d0 =>
   obtain ⟨d, rfl⟩ : ∃ d : Nat, d = d0 := ⟨d0, rfl⟩
   simp only [Option.bind_some]
   by_cases hd : d < f.n
   ·rw [if_pos (by simpa [Nat.blt_eq] using hd)]
    have hv := hf.get d hd
    have hsz : d < a.tmps.size := by rw [← hf.n]; exact hd
    have e : a.tmps[d]? = some (a.tmps.getD d undef) := by simp [hsz]
    rw [e]
    generalize a.tmps.getD d undef = v' at hv
    generalize f.get d = v0 at hv
    cases hv <;> rfl
   ·rw [if_neg (by simpa [Nat.blt_eq] using hd)]
    have e : a.tmps[d]? = none := Array.getElem?_eq_none (by have := hf.n; omega)
    rw [e]
theorem wanted_eq {S : St} {f : AFr} {a : Act} (hf : FR S f a) (ops : List Oper) (o : Oper) : wantedA ops o f = Region.wanted o (yielded ops.toArray a.tmps) := by
 unfold wantedA Region.wanted
 cases o.guard with
 | none => rfl
 | some p =>
  obtain ⟨j, want⟩ := p
  simp only [yield_eq hf]
  cases yielded ops.toArray a.tmps j <;> rfl
def MadeAt (es : List Ev) (j i : Nat) (b : Blk) : Prop := ∃ v, es[j]? = some (.made v i b)
theorem madeOf_mem : ∀ {es : List Ev} {n : Nat} {x : Nat × Nat × Blk}, x ∈ madeOf es n -> ∃ j, x.1 = n + j ∧ MadeAt es j x.2.1 x.2.2
 | [], _, _, h => by cases h
 | e :: r, n, x, h => by
  have rest : x ∈ madeOf r (n + 1) -> ∃ j, x.1 = n + j ∧ MadeAt (e :: r) j x.2.1 x.2.2 := fun h => by
   obtain ⟨j, h1, v, h2⟩ := madeOf_mem h
   exact ⟨j + 1, by omega, v, by simpa using h2⟩
  cases e with
  | made v i b =>
   simp only [madeOf] at h
   rcases List.mem_cons.1 h with rfl | h
   ·exact ⟨0, rfl, v, rfl⟩
   ·exact rest h
  | skip => exact rest h
  | quiet v => exact rest h
  | eff v s => exact rest h
theorem mem_madeOf : ∀ {es : List Ev} {n j i : Nat} {b : Blk}, MadeAt es j i b -> (n + j, i, b) ∈ madeOf es n
 | [], _, _, _, _, ⟨v, h⟩ => by simp at h
 | e :: r, n, 0, i, b, ⟨v, h⟩ => by
  simp only [List.getElem?_cons_zero, Option.some.injEq] at h
  subst h
  exact List.mem_cons_self ..
 | e :: r, n, j + 1, i, b, ⟨v, h⟩ => by
  have := mem_madeOf (es := r) (n := n + 1) (j := j) ⟨v, by simpa using h⟩
  rw [show n + 1 + j = n + (j + 1) by omega] at this
  cases e <;> simp only [madeOf] <;> first
   | exact List.mem_cons_of_mem _ this
   | exact this
structure Rep (es : List Ev) (T : ASt) (q : Nat -> Prop) (s : ASt) : Prop where
 next : s.next = T.next
 old : ∀ i o, T.heap.get i = some o -> s.heap.get i = some o
 new : ∀ i j b, T.heap.get i = none -> MadeAt es j i b -> q j -> s.heap.get i = some (.blk b)
 gone : ∀ i, T.heap.get i = none -> (∀ j b, MadeAt es j i b -> ¬ q j) -> s.heap.get i = none
def diff (s s' : ASt) (i : Nat) : Option AO :=
 match s.heap.get i with
 | some _ => none
 | none => s'.heap.get i
theorem Rep.adds {es : List Ev} {T s s' : ASt} {q q' : Nat -> Prop} (hb : ∀ j i b, MadeAt es j i b -> i < T.next) (h : Rep es T q s) (h' : Rep es T q' s') (hq : ∀ j, q j -> q' j) : Adds s s' (diff s s') := by
 refine ⟨by rw [h.next, h'.next], fun j o hj => ?_, fun j => ?_⟩
 ·unfold diff at hj
  split at hj
  ·cases hj
  ·rename_i hs
   refine ⟨hs, ?_⟩
   rw [h.next]
   cases hT : T.heap.get j with
   | some o' => rw [h.old j o' hT] at hs; cases hs
   | none =>
    by_cases hx : ∃ jj b, MadeAt es jj j b
    ·obtain ⟨jj, b, hx⟩ := hx; exact hb _ _ _ hx
    ·rw [h'.gone j hT (fun jj b hm => absurd ⟨jj, b, hm⟩ hx)] at hj; cases hj
 ·unfold diff
  cases hs : s.heap.get j with
  | none => simp only; cases s'.heap.get j <;> rfl
  | some o =>
   simp only
   cases hT : T.heap.get j with
   | some o' => rw [h'.old j o' hT, ← hs, h.old j o' hT]
   | none =>
    by_cases hx : ∃ jj b, MadeAt es jj j b ∧ q jj
    ·obtain ⟨jj, b, hx, hqj⟩ := hx
     rw [h'.new j jj b hT hx (hq jj hqj), ← hs, h.new j jj b hT hx hqj]
    ·rw [h.gone j hT (fun jj b hm hqj => hx ⟨jj, b, hm, hqj⟩)] at hs; cases hs
theorem sel_ne {p : Nat -> Bool} : ∀ {as : Made} {j i : Nat} {b : Blk}, (j, i, b) ∈ as -> p j = true -> sel p as i ≠ none
 | [], _, _, _, h, _ => by cases h
 | (j', i', b') :: r, j, i, b, h, hp => by
  simp only [sel]
  split
  ·simp
  ·rename_i hn
   rcases List.mem_cons.1 h with e | h
   ·injection e with e1 e2; injection e2 with e2 e3; subst e1; subst e2
    exact absurd ⟨hp, rfl⟩ hn
   ·exact sel_ne h hp
theorem fill_rep {es : List Ev} {p : Nat -> Bool} {T : ASt} {as : Made} (hb : ∀ x ∈ as, 0 < 16000001) (h1 : ∀ j i b, MadeAt es j i b -> p j = true -> (j, i, b) ∈ as) (h2 : ∀ x ∈ as, MadeAt es x.1 x.2.1 x.2.2)
  (hu : ∀ j j' i b b', MadeAt es j i b -> MadeAt es j' i b' -> j = j' ∧ b = b') : Rep es T (fun j => p j = true) (fill p T as) := by
 obtain ⟨n1, g1⟩ := fill_get p as T hb
 refine ⟨n1, fun i o hi => by rw [g1, hi], fun i j b hi hm hp => ?_, fun i hi hn => ?_⟩
 ·rw [g1, hi]
  cases hs : sel p as i with
  | none => exact absurd hs (sel_ne (h1 j i b hm hp) hp)
  | some o =>
   obtain ⟨j', b', k1, _, rfl⟩ := sel_some hs
   obtain ⟨_, rfl⟩ := hu _ _ _ _ _ hm (h2 _ k1)
   rfl
 ·rw [g1, hi]
  cases hs : sel p as i with
  | none => rfl
  | some o =>
   obtain ⟨j', b', k1, k2, rfl⟩ := sel_some hs
   exact absurd k2 (hn _ _ (h2 _ k1))
theorem Rep.step {es : List Ev} {T s t s1 t' : ASt} {q q' : Nat -> Prop} (h : Rep es T q s) (h' : Rep es T q' t) (ha : Adds s1 t' (diff s t)) (hk : Keeps s s1) : Rep es s1 q' t' := by
 have hnone : ∀ i, s1.heap.get i = none -> s.heap.get i = none ∧ T.heap.get i = none := fun i hi => by
  have e1 : s.heap.get i = none := by
   cases hs : s.heap.get i with
   | none => rfl
   | some o => exact absurd hi (hk.here i (by rw [hs]; simp))
  refine ⟨e1, ?_⟩
  cases hT : T.heap.get i with
  | none => rfl
  | some o => rw [h.old i o hT] at e1; cases e1
 refine ⟨ha.next, fun i o hi => ha.same hi, fun i j b hi hm hq => ?_, fun i hi hn => ?_⟩
 ·obtain ⟨e1, e2⟩ := hnone i hi
  rw [ha.get i]
  simp only [diff, e1, h'.new i j b e2 hm hq]
 ·obtain ⟨e1, e2⟩ := hnone i hi
  rw [ha.get i]
  simp only [diff, e1, h'.gone i e2 hn, hi]
theorem Rep.same {es : List Ev} {T s s' : ASt} {q : Nat -> Prop} (h : Rep es T q s) (hs : Same s s') : Rep es T q s' :=
 ⟨by rw [hs.next, h.next], fun i o hi => by rw [hs.get i]; exact h.old i o hi, fun i j b hi hm hq => by rw [hs.get i]; exact h.new i j b hi hm hq, fun i hi hn => by rw [hs.get i]; exact h.gone i hi hn⟩
theorem Rep.congr {es : List Ev} {T s : ASt} {q q' : Nat -> Prop} (h : Rep es T q s) (hq : ∀ j i b, MadeAt es j i b -> (q' j ↔ q j)) : Rep es T q' s :=
 ⟨h.next, h.old, fun i j b hi hm hqj => h.new i j b hi hm ((hq j i b hm).1 hqj), fun i hi hn => h.gone i hi (fun j b hm hqj => hn j b hm ((hq j i b hm).2 hqj))⟩
theorem Rep.put {es : List Ev} {T s : ASt} {q q' : Nat -> Prop} (h : Rep es T q s) {j i : Nat} {b : Blk} (hm : MadeAt es j i b) (hi : s.heap.get i = none) (hlt : 0 < 16000001)
  (hu : ∀ j j' i b b', MadeAt es j i b -> MadeAt es j' i b' -> j = j' ∧ b = b') (hq : ∀ k, q' k ↔ k = j ∨ q k) : Rep es T q' (s.put i (.blk b)) := by
 have self : (s.put i (.blk b)).heap.get i = some (.blk b) := by simp only [ASt.put, Tr.get_set_self _ _ _ _ (deep hlt)]
 refine ⟨h.next, fun k o hk => ?_, fun k j' b' hk hm' hqj => ?_, fun k hk hn => ?_⟩
 ·have hki : i ≠ k := fun e => by subst e; rw [h.old _ o hk] at hi; cases hi
  rw [ASt.get_put_ne _ _ _ _ hki]; exact h.old k o hk
 ·by_cases hki : i = k
  ·subst hki
   obtain ⟨_, rfl⟩ := hu _ _ _ _ _ hm hm'
   exact self
  ·rw [ASt.get_put_ne _ _ _ _ hki]
   refine h.new k j' b' hk hm' ?_
   rcases (hq j').1 hqj with rfl | h'
   ·obtain ⟨v, e1⟩ := hm
    obtain ⟨v', e2⟩ := hm'
    rw [e1] at e2
    injection e2 with e2; injection e2 with _ e3 _
    exact absurd e3 hki
   ·exact h'
 ·have hki : i ≠ k := fun e => by subst e; exact hn j b hm ((hq j).2 (.inl rfl))
  rw [ASt.get_put_ne _ _ _ _ hki]
  exact h.gone k hk (fun j' b' hm' hqj => hn j' b' hm' ((hq j').2 (.inr hqj)))
theorem drawOp_inv {P : Program} {call : Call} {all : List Oper} {m id : Nat} {as : Made} {o : Oper} {f : AFr} {T : ASt} {e : Ev} (h : drawOp P call all m id as o f T = some e) :
  (wantedA all o f = false ∧ e = .skip) ∨ (wantedA all o f = true ∧ ((quietOp P o = true ∧ ∃ v, e = .quiet v) ∨
   (quietOp P o = false ∧ allocOp P o = true ∧ ∃ v s1 b, e = .made v id b ∧ aop P o f ⟨.nil, id⟩ = some (.val v s1) ∧ s1.blk? id = some b) ∨
   (effectOp P o = true ∧ ∃ v s1, e = .eff v s1 ∧ (aop P o f (fill (Nat.testBit m) T as) = some (.val v s1) ∨ ∃ g args, aop P o f (fill (Nat.testBit m) T as) = some (.call g args) ∧ call g args (fill (Nat.testBit m) T as) = some (v, s1))))) := by
 unfold drawOp at h
 split at h
 ·rename_i hw; injection h with h; exact .inl ⟨hw, h.symm⟩
 ·rename_i hw
  refine .inr ⟨hw, ?_⟩
  split at h
  ·rename_i hq
   split at h
   ·injection h with h; exact .inl ⟨hq, _, h.symm⟩
   ·cases h
  ·rename_i hq ha
   split at h
   ·rename_i v s1 hop
    split at h
    ·rename_i b hb
     injection h with h; exact .inr (.inl ⟨hq, ha, v, s1, b, h.symm, hop, hb⟩)
    ·cases h
   ·cases h
  ·rename_i hq ha
   have he : effectOp P o = true := by simp [effectOp, hq, ha]
   split at h
   ·rename_i v s1 hop
    injection h with h; exact .inr (.inr ⟨he, v, s1, h.symm, .inl hop⟩)
   ·rename_i g args hop
    split at h
    ·rename_i v s1 hc
     injection h with h; exact .inr (.inr ⟨he, v, s1, h.symm, .inr ⟨g, args, hop, hc⟩⟩)
    ·cases h
   ·cases h
structure Trial (P : Program) (call : Call) (ops : List Oper) (f0 : AFr) (s0 : ASt) (es : List Ev) (F : Nat -> AFr) (G : Nat -> ASt) : Prop where
 len : es.length = ops.length
 F0 : F 0 = f0
 G0 : G 0 = ⟨s0.heap, s0.next + allocs P ops⟩
 room : 0 ≤ 16000000
 op : ∀ k o, ops[k]? = some o -> ∃ e, es[k]? = some e ∧ drawOp P call ops (nth0 (masks ops []) k) (s0.next + allocs P (ops.take k)) (madeOf (es.take k) 0) o (F k) (G k) = some e ∧
  putD (F k) o.dst e.val = some (F (k + 1)) ∧ G (k + 1) = e.after (G k)
 same : ∀ k o v p, ops[k]? = some o -> es[k]? = some (.quiet v) -> p ≤ ops.length -> (∀ x o', ops[x]? = some o' -> effectOp P o' = true -> Nat.testBit (nth0 (masks ops []) k) x = true -> x < p) ->
  (∀ x o', ops[x]? = some o' -> effectOp P o' = true -> x < p -> Nat.testBit (nth0 (masks ops []) x) k = false) ->
  ∃ t, aop P o (F k) (fill (Nat.testBit (nth0 (masks ops []) k)) (G p) (madeOf es 0)) = some (.val v t)
theorem drawRun_trial {P : Program} {call : Call} {ops : List Oper} {f f' : AFr} {s s' : ASt} (h : drawRun P call ops f s = some (f', s')) :
  ∃ es F G, Trial P call ops f s es F G ∧ f' = F ops.length ∧ s' = fill (fun _ => true) (G ops.length) (madeOf es 0) := by
 unfold drawRun at h
 split at h
 ·cases h
 rename_i hle
 split at h
 case h_2 => cases h
 rename_i es hd
 split at h
 case h_2 => cases h
 rename_i hck
 injection h with h; injection h with e1 e2; subst e1; subst e2
 have hms : (masks ops []).length = ops.length := by
  obtain ⟨r, h1, h2⟩ := masks_pre ops []
  rw [h1]; simpa using h2
 obtain ⟨h1, F, G, h2, h3, h4, h5, h6, h7⟩ := drawOps_spec ops (masks ops []) 0 s.next f _ [] es hms hd
 refine ⟨es, F, G, ⟨h1, h2, h3, by omega, fun k o ho => by simpa using h7 k o ho, ?_⟩, h4, by rw [h6]⟩
 intro k o v p ho he hp hlo hhi
 rw [← h2] at hck
 have hs := checkAll_spec k (masks ops []) ops es 0 F hms hck (fun k o e ho he => by
  obtain ⟨e', k1, _, k3, _⟩ := h7 k o ho
  rw [he] at k1; injection k1 with k1; subst k1; exact k3) o v ho he
 have hst := h5 p hp
 simp only [Nat.zero_add] at hst hs
 have c1 : countP (Nat.testBit (nth0 (masks ops []) k)) P ops 0 ≤ countP (fun j => Nat.blt j p) P ops 0 := countP_mono ops 0 (fun x o' ho' he' hx => by
  simp only [Nat.zero_add] at hx ⊢
  rw [Nat.blt_eq]; exact hlo x o' ho' he' hx)
 have c2 : countP (fun j => Nat.blt j p) P ops 0 ≤ countP (fun j => !Nat.testBit (nth0 (masks ops []) j) k) P ops 0 := countP_mono ops 0 (fun x o' ho' he' hx => by
  simp only [Nat.zero_add, Nat.blt_eq] at hx ⊢
  rw [hhi x o' ho' he' hx]; rfl)
 generalize countP (fun j => Nat.blt j p) P ops 0 = c at *
 generalize countP (Nat.testBit (nth0 (masks ops []) k)) P ops 0 = lo at *
 generalize countP (fun j => !Nat.testBit (nth0 (masks ops []) j) k) P ops 0 = hi at *
 have hmem : G p ∈ (((stagesOf P ops es ⟨s.heap, s.next + allocs P ops⟩).take (hi + 1)).drop lo) := by
  refine List.mem_of_getElem? (i := c - lo) ?_
  rw [List.getElem?_drop, show lo + (c - lo) = c by omega, List.getElem?_take, if_pos (by omega), hst]
 obtain ⟨u, t, k1, k2⟩ := sameAt_mem hs hmem
 rw [valEq_ok k2]
 exact ⟨t, k1⟩
section
variable {P : Program} {call : Call} {ops : List Oper} {f0 : AFr} {s0 : ASt} {es : List Ev} {F : Nat -> AFr} {G : Nat -> ASt}
theorem Trial.made (h : Trial P call ops f0 s0 es F G) {j i : Nat} {b : Blk} (hm : MadeAt es j i b) : ∃ o, ops[j]? = some o ∧ allocOp P o = true ∧ quietOp P o = false ∧ i = s0.next + allocs P (ops.take j) := by
 obtain ⟨v, hm⟩ := hm
 have hlt : j < ops.length := by rw [← h.len]; exact (List.getElem?_eq_some_iff.1 hm).1
 obtain ⟨e, h1, h2, _, _⟩ := h.op j ops[j] (List.getElem?_eq_getElem hlt)
 rw [hm] at h1; injection h1 with h1; subst h1
 refine ⟨ops[j], List.getElem?_eq_getElem hlt, ?_⟩
 rcases drawOp_inv h2 with ⟨_, e⟩ | ⟨_, ⟨_, v', e⟩ | ⟨hq, ha, v', s1, b', e, _⟩ | ⟨_, v', s1, e, _⟩⟩
 ·cases e
 ·cases e
 ·injection e with _ e _; exact ⟨ha, hq, e⟩
 ·cases e
theorem Trial.uniq (h : Trial P call ops f0 s0 es F G) : ∀ j j' i b b', MadeAt es j i b -> MadeAt es j' i b' -> j = j' ∧ b = b' := by
 intro j j' i b b' h1 h2
 obtain ⟨o, k1, k2, _, k3⟩ := h.made h1
 obtain ⟨o', l1, l2, _, l3⟩ := h.made h2
 have hj : j = j' := by
  rcases Nat.lt_trichotomy j j' with hlt | e | hlt
  ·have := allocs_take ops j j' k1 k2 hlt; omega
  ·exact e
  ·have := allocs_take ops j' j l1 l2 hlt; omega
 subst hj
 obtain ⟨v, e1⟩ := h1
 obtain ⟨v', e2⟩ := h2
 rw [e1] at e2; injection e2 with e2; injection e2 with _ _ e3
 exact ⟨rfl, e3⟩
theorem Trial.bound (h : Trial P call ops f0 s0 es F G) {j i : Nat} {b : Blk} (hm : MadeAt es j i b) : s0.next ≤ i ∧ i < s0.next + allocs P ops := by
 obtain ⟨o, k1, k2, _, k3⟩ := h.made hm
 have := allocs_take ops j ops.length k1 k2 (List.getElem?_eq_some_iff.1 k1).1
 rw [List.take_length] at this
 omega
theorem Trial.keep (h : Trial P call ops f0 s0 es F G) (hc : CallFr call) (hw : WF s0) : ∀ k, k ≤ ops.length -> KeepB s0.next (G 0) (G k) := by
 have hb0 : WF (G 0) := by rw [h.G0]; exact ⟨h.room, fun j o hj => by have := hw.bound j o hj; show j < s0.next + _; omega⟩
 intro k
 induction k with
 | zero => intro _; exact KeepB.refl hb0
 | succ k ih =>
  intro hk
  have ik := ih (by omega)
  obtain ⟨e, h1, h2, _, h4⟩ := h.op k ops[k] (List.getElem?_eq_getElem (by omega))
  have hn0 : (G 0).next = s0.next + allocs P ops := by rw [h.G0]
  have hid : ∀ x ∈ madeOf (es.take k) 0, s0.next ≤ x.2.1 ∧ x.2.1 < (G k).next := fun x hx => by
   obtain ⟨j, hj, v, hm⟩ := madeOf_mem hx
   have hm' : MadeAt es j x.2.1 x.2.2 := ⟨v, by
    rw [List.getElem?_take] at hm
    split at hm
    ·exact hm
    ·cases hm⟩
   have := h.bound hm'
   have := ik.next
   omega
  have kf := KeepB.fill ik.wf hid (Nat.testBit (nth0 (masks ops []) k))
  have hB : s0.next ≤ (fill (Nat.testBit (nth0 (masks ops []) k)) (G k) (madeOf (es.take k) 0)).next := by
   have := kf.next; have := ik.next; omega
  rw [h4]
  rcases drawOp_inv h2 with ⟨_, e⟩ | ⟨_, ⟨_, v', e⟩ | ⟨hq, ha, v', s1, b', e, _⟩ | ⟨_, v', s1, e, he⟩⟩ <;> subst e
  ·exact ik
  ·exact ik
  ·exact ik
  ·refine ik.trans (kf.trans ?_)
   rcases he with hop | ⟨g, args, hop, hcl⟩
   ·obtain ⟨_, _, _, k3⟩ := aop_fr (Same.refl _) kf.wf hop
    exact k3.toB hB
   ·obtain ⟨_, _, _, k3⟩ := hc _ _ _ _ _ _ _ (Same.refl _) kf.wf hcl
    exact k3.toB hB
theorem Trial.Gc (h : Trial P call ops f0 s0 es F G) (a : Nat) : ∀ b, a ≤ b -> b ≤ ops.length -> (∀ x o, a ≤ x -> x < b -> ops[x]? = some o -> effectOp P o = false) -> G b = G a := by
 intro b
 induction b with
 | zero => intro hab _ _; rw [Nat.le_zero.1 hab]
 | succ b ih =>
  intro hab hb hx
  by_cases hab' : a = b + 1
  ·rw [hab']
  obtain ⟨e, h1, h2, _, h4⟩ := h.op b ops[b] (List.getElem?_eq_getElem (by omega))
  have hne := hx b _ (by omega) (by omega) (List.getElem?_eq_getElem (show b < ops.length by omega))
  rw [h4, ← ih (by omega) (by omega) (fun x o h1 h2 h3 => hx x o h1 (by omega) h3)]
  rcases drawOp_inv h2 with ⟨_, e⟩ | ⟨_, ⟨_, v', e⟩ | ⟨hq, ha, v', s1, b', e, _⟩ | ⟨he, _⟩⟩
  ·subst e; rfl
  ·subst e; rfl
  ·subst e; rfl
  ·rw [hne] at he; cases he
theorem Trial.Geq (h : Trial P call ops f0 s0 es F G) {a b : Nat} (ha : a ≤ ops.length) (hb : b ≤ ops.length) (hx : ∀ x o, ops[x]? = some o -> effectOp P o = true -> (x < a ↔ x < b)) : G a = G b := by
 rcases Nat.le_total a b with hab | hab
 ·refine (h.Gc a b hab hb (fun x o h1 h2 h3 => ?_)).symm
  cases he : effectOp P o with
  | false => rfl
  | true => have := (hx x o h3 he).2 h2; omega
 ·refine h.Gc b a hab ha (fun x o h1 h2 h3 => ?_)
  cases he : effectOp P o with
  | false => rfl
  | true => have := (hx x o h3 he).1 h2; omega
theorem putD_get_ne {f f' : AFr} {d : Option Tmp} {v : Value} {t : Nat} (h : putD f d v = some f') (hd : d ≠ some t) : f'.get t = f.get t := by
 unfold putD at h
 split at h
 ·split at h
  ·injection h with h; subst h
   rename_i u _
   have hu : u ≠ t := fun e => hd (by rw [e])
   simp only [AFr.get, AFr.put, Tr.get_set_ne _ _ _ _ _ hu]
  ·cases h
 ·injection h with h; subst h; rfl
theorem putD_get_self {f f' : AFr} {v : Value} {t : Nat} (h : putD f (some t) v = some f') (_ : f.n ≤ 16000000) : f'.get t = v := by
 unfold putD at h
 simp only at h
 split at h
 ·rename_i ht
  have ht' : t < f.n := by simpa [Nat.blt_eq] using ht
  injection h with h; subst h
  simp only [AFr.get, AFr.put, Tr.get_set_self _ _ _ _ (deep (show 0 < 16000001 by omega))]
 ·cases h
theorem putD_some {f g f' : AFr} {d : Option Tmp} {v : Value} (h : putD f d v = some f') (hn : g.n = f.n) : ∃ g', putD g d v = some g' := by
 unfold putD at *
 cases d with
 | none => exact ⟨g, rfl⟩
 | some t =>
  simp only at h ⊢
  rw [hn]
  split at h
  ·rename_i ht; rw [if_pos ht]; exact ⟨_, rfl⟩
  ·cases h
theorem Trial.Fn (h : Trial P call ops f0 s0 es F G) : ∀ k, k ≤ ops.length -> (F k).n = f0.n := by
 intro k
 induction k with
 | zero => intro _; rw [h.F0]
 | succ k ih =>
  intro hk
  obtain ⟨e, _, _, h3, _⟩ := h.op k ops[k] (List.getElem?_eq_getElem (by omega))
  rw [putD_n h3]; exact ih (by omega)
theorem Trial.Fc (h : Trial P call ops f0 s0 es F G) (t a : Nat) : ∀ b, a ≤ b -> b ≤ ops.length -> (∀ x o, a ≤ x -> x < b -> ops[x]? = some o -> o.dst ≠ some t) -> (F b).get t = (F a).get t := by
 intro b
 induction b with
 | zero => intro hab _ _; rw [Nat.le_zero.1 hab]
 | succ b ih =>
  intro hab hb hx
  by_cases hab' : a = b + 1
  ·rw [hab']
  obtain ⟨e, h1, _, h3, _⟩ := h.op b ops[b] (List.getElem?_eq_getElem (by omega))
  have hne := hx b _ (by omega) (by omega) (List.getElem?_eq_getElem (show b < ops.length by omega))
  rw [putD_get_ne h3 hne]
  exact ih (by omega) (by omega) (fun x o h1 h2 h3 => hx x o h1 (by omega) h3)
theorem regOk_after (h : regOk P ops = true) {y : Nat} {o : Oper} (ho : ops[y]? = some o) {e : Edge} (he : e ∈ o.after.toList) (hb : Region.binds .any e = true) : e.on < y := by
 simp only [regOk, List.all_eq_true, Bool.and_eq_true] at h
 have := (h (o, y) (by rw [List.mem_zipIdx_iff_getElem?]; simpa using ho)).1 e he
 simpa [hb, Nat.blt_eq] using this
theorem regOk_dep (h : regOk P ops = true) {x y : Nat} {ox oy : Oper} (hx : ops[x]? = some ox) (hy : ops[y]? = some oy) (hlt : x < y) (hd : depends P ops ox oy = true) : Nat.testBit (nth0 (masks ops []) y) x = true := by
 simp only [regOk, List.all_eq_true, Bool.and_eq_true] at h
 have := (h (oy, y) (by rw [List.mem_zipIdx_iff_getElem?]; simpa using hy)).2 (ox, x) (by rw [List.mem_zipIdx_iff_getElem?]; simpa using hx)
 have hb : Nat.blt x y = true := by rw [Nat.blt_eq]; exact hlt
 simpa [hb, hd] using this
def Closed (ops : List Oper) (L : Nat -> Prop) : Prop := ∀ y o, ops[y]? = some o -> L y -> ∀ e ∈ o.after.toList, Region.binds .any e = true -> L e.on
theorem anc (h : regOk P ops = true) {L : Nat -> Prop} (hc : Closed ops L) : ∀ y o, ops[y]? = some o -> (∀ e ∈ o.after.toList, Region.binds .any e = true -> L e.on) -> ∀ x, Nat.testBit (nth0 (masks ops []) y) x = true -> L x := by
 intro y
 induction y using Nat.strongRecOn with
 | ind y ih =>
  intro o ho he x hx
  obtain ⟨acc', h1, h2⟩ := masks_spec ops [] y o ho
  simp only [List.length_nil, Nat.zero_add] at h1 h2
  rw [h2] at hx
  rcases maskOf_inv hx with h0 | ⟨e, e1, e2, e3⟩
  ·simp at h0
  ·have hlt := regOk_after h ho e1 e2
   have hL := he e e1 e2
   rcases e3 with rfl | e3
   ·exact hL
   ·rw [h1 _ hlt] at e3
    have hyl := (List.getElem?_eq_some_iff.1 ho).1
    have hoe : ops[e.on]? = some ops[e.on] := List.getElem?_eq_getElem (show e.on < ops.length by omega)
    exact ih e.on hlt _ hoe (hc _ _ hoe hL) x e3
theorem mask_lt (h : regOk P ops = true) {y : Nat} {o : Oper} (ho : ops[y]? = some o) {x : Nat} (hx : Nat.testBit (nth0 (masks ops []) y) x = true) : x < y :=
 anc h (L := fun x => x < y) (fun _ _ hz hL _ he hb => Nat.lt_trans (regOk_after h hz he hb) hL) y o ho (fun _ he hb => regOk_after h ho he hb) x hx
theorem rel (h : regOk P ops = true) {L : Nat -> Prop} (hc : Closed ops L) {i : Nat} {o : Oper} (ho : ops[i]? = some o) (hn : ¬ L i) (he : ∀ e ∈ o.after.toList, Region.binds .any e = true -> L e.on)
  {x : Nat} {ox : Oper} (hx : ops[x]? = some ox) (h1 : x < i -> depends P ops ox o = true) (h2 : i < x -> depends P ops o ox = true) : x < i ↔ L x := by
 rcases Nat.lt_trichotomy x i with hlt | e | hlt
 ·exact ⟨fun _ => anc h hc i o ho he x (regOk_dep h hx ho hlt (h1 hlt)), fun _ => hlt⟩
 ·subst e; exact ⟨fun hl => absurd hl (Nat.lt_irrefl _), fun hl => absurd hl hn⟩
 ·refine ⟨fun hl => by omega, fun hl => ?_⟩
  exact absurd (anc h hc x ox hx (hc x ox hx hl) i (regOk_dep h ho hx hlt (h2 hlt))) hn
def Inv (P : Program) (base : Nat) (S0 : St) (a0 : Act) (ops : List Oper) (es : List Ev) (F : Nat -> AFr) (G : Nat -> ASt) (L : Nat -> Prop) (a : Act) (w : World) : Prop :=
 ∃ (S : St) (g : AFr) (p : Nat), S.w = w ∧ Good base S0 S ∧ FR S g a ∧ a.defers = a0.defers ∧ g.n = (F 0).n ∧ p ≤ ops.length ∧ (∀ x o, ops[x]? = some o -> effectOp P o = true -> (x < p ↔ L x)) ∧ Rep es (G p) L S.s ∧
  (∀ j i b, MadeAt es j i b -> ¬ L j -> S.s.heap.get i = none) ∧ (∀ i, i ≤ ops.length -> ∀ t : Nat, (∀ x o, ops[x]? = some o -> o.dst = some t -> (x < i ↔ L x)) -> g.get t = (F i).get t)
theorem hits_self {l : List Nat} {d : Option Tmp} {t : Nat} (hd : d = some t) (ht : t ∈ l) : hits l d = true := by
 subst hd
 simp only [hits, List.any_eq_true]
 exact ⟨t, ht, Nat.beq_refl t⟩
theorem inv_step (h : Trial P call ops f0 s0 es F G) (hreg : regOk P ops = true) (hc : CallFr call) {Pre : Nat -> World -> Prop} (hok : CallOk P Pre call) {base : Nat} {S0 : St} {a0 : Act} (hw0 : WF s0) (hst : Stays Pre) (hpre : Pre base S0.w) {L L' : Nat -> Prop} (hcl : Closed ops L) {a : Act} {w : World} (hinv : Inv P base S0 a0 ops es F G L a w)
  {i : Nat} {o : Oper} (ho : ops[i]? = some o) (hn : ¬ L i) (he : ∀ e ∈ o.after.toList, Region.binds .any e = true -> L e.on) (hL' : ∀ j, L' j ↔ j = i ∨ L j) {K : Act -> World -> Prop} {Q : Exit -> Act -> World -> Prop}
  (hK : ∀ a w, Inv P base S0 a0 ops es F G L' a w -> K a w) : wpOp P ops.toArray Q i K a w := by
 obtain ⟨S, g, p, rfl, hg, hf, had, hgn, hp, heff, hrep, hfree, hfr⟩ := hinv
 obtain ⟨ev, hev, hdo, hput, hG⟩ := h.op i o ho
 have hil : i < ops.length := (List.getElem?_eq_some_iff.1 ho).1
 have hgF : g.n = (F i).n := by rw [hgn, h.F0, h.Fn i (by omega)]
 obtain ⟨g', hg'⟩ := putD_some hput hgF
 have hsmall := hf.small
 have hkp := h.keep hc hw0 p hp
 have hG0n : (G 0).next = s0.next + allocs P ops := by rw [h.G0]
 have hmb : ∀ j k b, MadeAt es j k b -> k < (G p).next := fun j k b hm => by have := (h.bound hm).2; have := hkp.next; omega
 have hsee : ∀ t : Nat, t ∈ seenBy ops o -> g.get t = (F i).get t := fun t ht => hfr i (by omega) t (fun x ox hx hd => rel hreg hcl ho hn he hx
  (fun _ => by simp only [depends, hits_self hd ht, Bool.or_true, Bool.true_or])
  (fun _ => by simp only [depends, hits_self hd ht, Bool.or_true, Bool.true_or]))
 have hsee2 : ∀ t : Nat, Operand.tmp t ∈ o.op.operands.toList -> (F i).get t = g.get t := fun t ht => (hsee t (by
  simp only [seenBy, List.mem_append, List.mem_filterMap]
  exact .inl ⟨_, ht, rfl⟩)).symm
 have hwant : wantedA ops o g = wantedA ops o (F i) := wantedA_congr hgF hsee
 have hcongr : ∀ s, aop P o (F i) s = aop P o g s := fun s => aop_congr hgF.symm hsee2 s
 have hfr' : ∀ i', i' ≤ ops.length -> ∀ t : Nat, (∀ x ox, ops[x]? = some ox -> ox.dst = some t -> (x < i' ↔ L' x)) -> g'.get t = (F i').get t := by
  intro i' hi' t ht
  by_cases hd : o.dst = some t
  ·have hii : i < i' := (ht i o ho hd).2 ((hL' i).2 (.inl rfl))
   have e1 : g'.get t = ev.val := by rw [hd] at hg'; exact putD_get_self hg' hsmall
   have e2 : (F (i + 1)).get t = ev.val := by rw [hd] at hput; exact putD_get_self hput (by rw [← hgF]; exact hsmall)
   rw [e1, ← e2]
   refine (h.Fc t (i + 1) i' (by omega) hi' (fun x ox h1 h2 h3 h4 => ?_)).symm
   have hLx : L x := by
    rcases (hL' x).1 ((ht x ox h3 h4).1 h2) with e | hl
    ·omega
    ·exact hl
   have := (rel hreg hcl ho hn he h3 (fun _ => by omega) (fun _ => by
    have : hits o.dst.toList ox.dst = true := hits_self h4 (by rw [hd]; simp)
    simp only [depends, this, Bool.or_true])).2 hLx
   omega
  ·rw [putD_get_ne hg' hd]
   refine hfr i' hi' t (fun x ox hx hdx => ?_)
   rw [ht x ox hx hdx, hL' x]
   have : x ≠ i := fun e => by subst e; rw [ho] at hx; injection hx with hx; subst hx; exact hd hdx
   simp [this]
 have hgn' : g'.n = (F 0).n := by rw [putD_n hg', hgn]
 have fin : ∀ (T : St) (v' : Value) (p' : Nat), Good base S T -> VR T ev.val v' -> p' ≤ ops.length -> (∀ x ox, ops[x]? = some ox -> effectOp P ox = true -> (x < p' ↔ L' x)) -> Rep es (G p') L' T.s ->
   (∀ j k b, MadeAt es j k b -> ¬ L' j -> T.s.heap.get k = none) -> K (a.put o.dst v') T.w := by
  intro T v' p' hgT hv hp' heff' hrep' hfree'
  exact hK _ _ ⟨T, g', p', rfl, hg.trans hgT, (hf.mono hgT.ext).put hv hg', (put_defers _ _ _).trans had, hgn', hp', heff', hrep', hfree', hfr'⟩
 have hnoeff : effectOp P o = false -> ∀ x ox, ops[x]? = some ox -> effectOp P ox = true -> (x < p ↔ L' x) := fun hne x ox hx hex => by
  rw [heff x ox hx hex, hL' x]
  have : x ≠ i := fun e => by subst e; rw [ho] at hx; injection hx with hx; subst hx; rw [hne] at hex; cases hex
  simp [this]
 have hrelE : effectOp P o = true -> ∀ x ox, ops[x]? = some ox -> effectOp P ox = true -> (x < i ↔ L x) := fun hne x ox hx hex => rel hreg hcl ho hn he hx
  (fun _ => by simp only [depends, hex, hne, Bool.and_self, Bool.true_or]) (fun _ => by simp only [depends, hex, hne, Bool.and_self, Bool.true_or])
 have hyeff : effectOp P o = true -> ∀ x ox, ops[x]? = some ox -> effectOp P ox = true -> (x < i + 1 ↔ L' x) := fun hne x ox hx hex => by
  rw [hL' x, ← hrelE hne x ox hx hex]
  omega
 have hGpi : effectOp P o = true -> G p = G i := fun hne => h.Geq hp (by omega) (fun x ox hx hex => by rw [heff x ox hx hex, hrelE hne x ox hx hex])
 have hnm : (∀ v k b, ev ≠ .made v k b) -> ∀ j k b, MadeAt es j k b -> (L' j ↔ L j) := fun hne j k b hm => by
  rw [hL' j]
  have : j ≠ i := fun e => by
   subst e
   obtain ⟨v, hm⟩ := hm
   rw [hev] at hm; injection hm with hm
   exact hne _ _ _ hm
  simp [this]
 unfold wpOp
 have hoa : ops.toArray[i]? = some o := by rw [List.getElem?_toArray]; exact ho
 simp only [hoa]
 rw [← wanted_eq hf, hwant]
 rcases drawOp_inv hdo with ⟨hwa, rfl⟩ | ⟨hwa, hcase⟩
 ·rw [if_neg (by rw [hwa]; simp)]
  have hnm' := hnm (fun _ _ _ => by simp)
  have hfree' : ∀ j k b, MadeAt es j k b -> ¬ L' j -> S.s.heap.get k = none := fun j k b hm hl => hfree j k b hm (fun hl' => hl ((hL' j).2 (.inr hl')))
  cases hef : effectOp P o with
  | false => exact fin S undef p (Good.refl hg.sr) (VR.undef' S) hp (hnoeff hef) (hrep.congr hnm') hfree'
  | true =>
   refine fin S undef (i + 1) (Good.refl hg.sr) (VR.undef' S) (by omega) (hyeff hef) ?_ hfree'
   have : G (i + 1) = G p := by rw [hG, hGpi hef]; rfl
   rw [this]
   exact hrep.congr hnm'
 ·rw [if_pos hwa]
  refine .inl ?_
  rcases hcase with ⟨hq, v, rfl⟩ | ⟨hq, ha, v, s1, b, rfl, hop, hb⟩ | ⟨hef, v, s1, rfl, hcase⟩
  ·
   have hnm' := hnm (fun _ _ _ => by simp)
   obtain ⟨t, hop⟩ := h.same i o v p ho hev hp (fun x ox hx hex hb => (heff x ox hx hex).2 (anc hreg hcl i o ho he x hb)) (fun x ox hx hex hxp => by
    cases hb : Nat.testBit (nth0 (masks ops []) x) i with
    | false => rfl
    | true => exact absurd (anc hreg hcl x ox hx (hcl x ox hx ((heff x ox hx hex).1 hxp)) i hb) hn)
   have hids : ∀ x ∈ madeOf es 0, s0.next ≤ x.2.1 ∧ x.2.1 < (G p).next := fun x hx => by
    obtain ⟨j, _, hm⟩ := madeOf_mem hx
    exact ⟨(h.bound hm).1, hmb _ _ _ hm⟩
   have kf := KeepB.fill hkp.wf hids (Nat.testBit (nth0 (masks ops []) i))
   have hr1 : Rep es (G p) (fun j => Nat.testBit (nth0 (masks ops []) i) j = true) (fill (Nat.testBit (nth0 (masks ops []) i)) (G p) (madeOf es 0)) := fill_rep (fun x hx => by have := (hids x hx).2; have := hkp.wf.room; omega)
    (fun j k b hm _ => by have := mem_madeOf (n := 0) hm; simpa using this) (fun x hx => by obtain ⟨j, hj, hm⟩ := madeOf_mem hx; rw [show x.1 = j by omega]; exact hm) h.uniq
   have hadd := hr1.adds hmb hrep (fun j hj => anc hreg hcl i o ho he j hj)
   obtain ⟨t', k1, _, _⟩ := aop_fr hadd kf.wf hop
   rw [hcongr] at k1
   obtain ⟨v2, e, v', hv, hrun⟩ := aop_quiet hg.sr hf hq _ k1
   injection e with e1 e2
   subst e1
   unfold Oper.wp
   rw [hrun]
   have hef : effectOp P o = false := by simp [effectOp, hq]
   exact fin S v' p (Good.refl hg.sr) hv hp (hnoeff hef) (hrep.congr hnm') (fun j k b hm hl => hfree j k b hm (fun hl' => hl ((hL' j).2 (.inr hl'))))
  ·
   have hm : MadeAt es i (s0.next + allocs P (ops.take i)) b := ⟨v, hev⟩
   have hfr0 := hfree _ _ _ hm hn
   have hlt : s0.next + allocs P (ops.take i) < S.s.next := by rw [hrep.next]; exact hmb _ _ _ hm
   have hroom := hg.sr.room
   rw [hcongr] at hop
   obtain ⟨T, v', hT, hv, hgT, hrun⟩ := alloc_ok hg.sr hf ha ⟨hfr0, hlt, Nat.le_refl _, hroom, .inl hlt⟩ hop hb
   unfold Oper.wp
   rw [hrun]
   have hef : effectOp P o = false := by simp [effectOp, hq, ha]
   refine fin T v' p hgT hv hp (hnoeff hef) ?_ ?_
   ·rw [hT]
    exact hrep.put hm hfr0 (by omega) h.uniq hL'
   ·intro j k b' hm' hl
    rw [hT]
    have hji : j ≠ i := fun e => hl ((hL' j).2 (.inl e))
    have hk : s0.next + allocs P (ops.take i) ≠ k := fun e => by
     subst e
     exact hji (h.uniq _ _ _ _ _ hm' hm).1
    rw [ASt.get_put_ne _ _ _ _ hk]
    exact hfree j k b' hm' (fun hl' => hl ((hL' j).2 (.inr hl')))
  ·
   have hnm' := hnm (fun _ _ _ => by simp)
   have hGp := hGpi hef
   have hids : ∀ x ∈ madeOf (es.take i) 0, MadeAt es x.1 x.2.1 x.2.2 := fun x hx => by
    obtain ⟨j, hj, v, hm⟩ := madeOf_mem hx
    rw [show x.1 = j by omega]
    refine ⟨v, ?_⟩
    rw [List.getElem?_take] at hm
    split at hm
    ·exact hm
    ·cases hm
   have kf := KeepB.fill hkp.wf (fun x hx => ⟨(h.bound (hids x hx)).1, hmb _ _ _ (hids x hx)⟩) (Nat.testBit (nth0 (masks ops []) i))
   have hr1 : Rep es (G p) (fun j => Nat.testBit (nth0 (masks ops []) i) j = true) (fill (Nat.testBit (nth0 (masks ops []) i)) (G p) (madeOf (es.take i) 0)) := fill_rep (fun x hx => by have := hmb _ _ _ (hids x hx); have := hkp.wf.room; omega)
    (fun j k b hm hj => by
     have hlt := mask_lt hreg ho hj
     have : MadeAt (es.take i) j k b := by
      obtain ⟨v, hm⟩ := hm
      exact ⟨v, by rw [List.getElem?_take, if_pos hlt]; exact hm⟩
     have := mem_madeOf (n := 0) this; simpa using this) hids h.uniq
   have hadd := hr1.adds hmb hrep (fun j hj => anc hreg hcl i o ho he j hj)
   have hwS := hg.sr.wf
   rw [← hGp] at hcase
   have hG1 : G (i + 1) = s1 := by rw [hG]; rfl
   have last : ∀ (T : St) (v' : Value) (t' : ASt), Same t' T.s -> Adds s1 t' (diff (fill (Nat.testBit (nth0 (masks ops []) i)) (G p) (madeOf (es.take i) 0)) S.s) -> Keeps (fill (Nat.testBit (nth0 (masks ops []) i)) (G p) (madeOf (es.take i) 0)) s1 -> Keeps S.s t' -> VR T v v' -> Good base S T -> K (a.put o.dst v') T.w := by
    intro T v' t' hTs k2 k3 k4 hv hgT
    refine fin T v' (i + 1) hgT hv (by omega) (hyeff hef) ?_ ?_
    ·rw [hG1]
     exact ((hr1.step hrep k2 k3).same hTs).congr hnm'
    ·intro j k b hm hl
     rw [hTs.get k]
     exact k4.gone k (by rw [hrep.next]; exact hmb _ _ _ hm) (hfree j k b hm (fun hl' => hl ((hL' j).2 (.inr hl'))))
   rcases hcase with hop | ⟨gf, args, hop, hcl2⟩
   ·obtain ⟨t', k1, k2, k3⟩ := aop_fr hadd kf.wf hop
    obtain ⟨_, _, _, k4⟩ := aop_fr (Same.refl _) hwS k1
    rw [hcongr] at k1
    obtain ⟨T, v', hTs, hv, hgT, hrun⟩ := aop_ok hg.sr hf _ k1
    unfold Oper.wp
    rcases hrun with hrun | ⟨hrun, rfl⟩
    ·rw [hrun]
     exact last T v' t' (by rw [hTs]; exact Same.refl _) k2 k3 k4 hv hgT
    ·rw [hrun]
     exact last T undef t' (by rw [hTs]; exact Same.refl _) k2 k3 k4 hv hgT
   ·have k1 := aop_fr hadd kf.wf hop
    simp only [FrAR] at k1
    rw [hcongr] at k1
    obtain ⟨t', c1, c2, c3⟩ := hc _ _ _ _ _ _ _ hadd kf.wf hcl2
    obtain ⟨_, _, _, c4⟩ := hc _ _ _ _ _ _ _ (Same.refl _) hwS c1
    obtain ⟨args', hva, hex⟩ := aop_ok hg.sr hf _ k1
    unfold Oper.wp
    rw [hex]
    rcases hok gf base S S.s args v t' (Same.refl _) hg.sr (hst base _ _ hg.below hpre) c1 args' hva with ⟨hrun, hcalls⟩ | ⟨T, v', hrun, hTs, hv, hgT⟩
    ·rw [hrun]
     refine Calls.mono hcalls ?_
     rintro e w' ⟨T, v', hTs, rfl, rfl, hv, hgT⟩
     exact last T v' t' hTs c2 c3 c4 hv hgT
    ·rw [hrun]
     exact last T v' t' hTs c2 c3 c4 hv hgT
end
end Go.Cl
namespace Go.Cl
open Go.RowKit
def cnt (listed : Array Bool) : Nat -> Nat
 | 0 => 0
 | n + 1 => cnt listed n + (if listed.getD n true = true then 0 else 1)
theorem cnt_zero {listed : Array Bool} : ∀ {n : Nat}, cnt listed n = 0 -> ∀ j, j < n -> listed.getD j true = true
 | 0, _, j, hj => by omega
 | n + 1, h, j, hj => by
  simp only [cnt] at h
  by_cases hjn : j = n
  ·subst hjn
   by_cases hl : listed.getD j true = true
   ·exact hl
   ·rw [if_neg hl] at h; omega
  ·exact cnt_zero (n := n) (by omega) j (by omega)
theorem cnt_set_ge {listed : Array Bool} {i : Nat} : ∀ {n : Nat}, n ≤ i -> cnt (listed.setIfInBounds i true) n = cnt listed n
 | 0, _ => rfl
 | n + 1, h => by
  simp only [cnt, cnt_set_ge (n := n) (by omega : n ≤ i), getD_set_ne true (show i ≠ n by omega)]
theorem cnt_set {listed : Array Bool} {i : Nat} (hi : i < listed.size) (hf : listed.getD i true = false) : ∀ {n : Nat}, i < n -> cnt (listed.setIfInBounds i true) n + 1 = cnt listed n
 | 0, h => by omega
 | n + 1, h => by
  simp only [cnt]
  by_cases hin : i = n
  ·subst hin
   rw [cnt_set_ge (Nat.le_refl _), hf]
   have : (listed.setIfInBounds i true).getD i true = true := by simp [hi]
   rw [this]; simp
  ·have := cnt_set hi hf (n := n) (by omega)
   rw [getD_set_ne true hin]
   omega
theorem Rep.unique {es : List Ev} {T s s' : ASt} {q : Nat -> Prop} (h : Rep es T q s) (h' : Rep es T q s') : Same s s' := by
 refine ⟨by rw [h.next, h'.next], (fun _ _ h => by cases h), fun i => ?_⟩
 show s'.heap.get i = s.heap.get i
 cases hT : T.heap.get i with
 | some o => rw [h.old i o hT, h'.old i o hT]
 | none =>
  by_cases hx : ∃ j b, MadeAt es j i b ∧ q j
  ·obtain ⟨j, b, hm, hq⟩ := hx
   rw [h.new i j b hT hm hq, h'.new i j b hT hm hq]
  ·rw [h.gone i hT (fun j b hm hq => hx ⟨j, b, hm, hq⟩), h'.gone i hT (fun j b hm hq => hx ⟨j, b, hm, hq⟩)]
def Lof (listed : Array Bool) (j : Nat) : Prop := listed.getD j false = true
section
variable {P : Program} {call : Call} {ops : List Oper} {f0 : AFr} {s0 : ASt} {es : List Ev} {F : Nat -> AFr} {G : Nat -> ASt}
theorem inv_end (h : Trial P call ops f0 s0 es F G) (hc : CallFr call) (hw0 : WF s0) {base : Nat} {S0 : St} {a0 : Act} {L : Nat -> Prop} {a : Act} {w : World} (hinv : Inv P base S0 a0 ops es F G L a w) (hall : ∀ j, j < ops.length -> L j) :
  ∃ S, S.w = w ∧ Good base S0 S ∧ FR S (F ops.length) a ∧ a.defers = a0.defers ∧ Same (fill (fun _ => true) (G ops.length) (madeOf es 0)) S.s := by
 obtain ⟨S, g, p, rfl, hg, hf, had, hgn, hp, heff, hrep, hfree, hfr⟩ := hinv
 have hlt : ∀ x (ox : Oper), ops[x]? = some ox -> x < ops.length := fun x ox hx => (List.getElem?_eq_some_iff.1 hx).1
 have hG : G p = G ops.length := h.Geq hp (Nat.le_refl _) (fun x ox hx hex => by rw [heff x ox hx hex]; exact ⟨fun _ => hlt x ox hx, fun hl => hall x hl⟩)
 have hk := h.keep hc hw0 ops.length (Nat.le_refl _)
 have hG0n : (G 0).next = s0.next + allocs P ops := by rw [h.G0]
 have hids : ∀ x ∈ madeOf es 0, 0 < 16000001 := fun x hx => by
  obtain ⟨j, _, hm⟩ := madeOf_mem hx
  have := (h.bound hm).2
  have := hk.next
  have := hk.wf.room
  omega
 have hr1 : Rep es (G ops.length) (fun _ => true = true) (fill (fun _ => true) (G ops.length) (madeOf es 0)) := fill_rep hids (fun j k b hm _ => by have := mem_madeOf (n := 0) hm; simpa using this)
  (fun x hx => by obtain ⟨j, hj, hm⟩ := madeOf_mem hx; rw [show x.1 = j by omega]; exact hm) h.uniq
 rw [hG] at hrep
 have hr2 := hrep.congr (q' := fun _ => true = true) (fun j k b hm => ⟨fun _ => by obtain ⟨o, k1, _⟩ := h.made hm; exact hall j (hlt j o k1), fun _ => rfl⟩)
 refine ⟨S, rfl, hg, ?_, had, hr1.unique hr2⟩
 have hn : g.n = (F ops.length).n := by rw [hgn, h.F0, h.Fn _ (Nat.le_refl _)]
 refine ⟨by rw [← hn]; exact hf.n, by rw [← hn]; exact hf.small, fun t ht => ?_⟩
 rw [← hfr ops.length (Nat.le_refl _) t (fun x ox hx _ => ⟨fun hl => hall x hl, fun _ => hlt x ox hx⟩)]
 exact hf.get t (by rw [hn]; exact ht)
theorem any_ok (h : Trial P call ops f0 s0 es F G) (hreg : regOk P ops = true) (hc : CallFr call) {Pre : Nat -> World -> Prop} (hok : CallOk P Pre call) (hw0 : WF s0) (hst : Stays Pre) {base : Nat} {S0 : St} (hpre : Pre base S0.w) {a0 : Act} {Q : Exit -> Act -> World -> Prop}
  (hQ : ∀ T a', Same (fill (fun _ => true) (G ops.length) (madeOf es 0)) T.s -> Good base S0 T -> FR T (F ops.length) a' -> a'.defers = a0.defers -> Q .normal a' T.w) :
  ∀ (fuel : Nat) (listed : Array Bool) (a : Act) (w : World), listed.size = ops.length -> cnt listed ops.length ≤ fuel -> Closed ops (Lof listed) -> Inv P base S0 a0 ops es F G (Lof listed) a w -> wpAny P .any ops.toArray Q fuel listed a w := by
 have ending : ∀ (listed : Array Bool) (a : Act) (w : World), Inv P base S0 a0 ops es F G (Lof listed) a w -> (∀ j, j < ops.length -> Lof listed j) -> Q .normal a w := by
  intro listed a w hinv hall
  obtain ⟨S, rfl, h1, h2, h3, h4⟩ := inv_end h hc hw0 hinv hall
  exact hQ S a h4 h1 h2 h3
 have hsw : ∀ (listed : Array Bool) j, listed.size = ops.length -> j < ops.length -> (listed.getD j true = true ↔ Lof listed j) := by
  intro listed j hsz hj
  have : j < listed.size := by omega
  simp [Lof, this]
 have nil_all : ∀ (listed : Array Bool), listed.size = ops.length -> Region.ready .any ops.toArray listed = [] -> ∀ j, j < ops.length -> Lof listed j := by
  intro listed hsz hnil j
  induction j using Nat.strongRecOn with
  | ind j ih =>
   intro hj
   by_cases hl : listed.getD j true = true
   ·exact (hsw listed j hsz hj).1 hl
   ·exfalso
    have hoj : ops[j]? = some ops[j] := List.getElem?_eq_getElem hj
    have : j ∈ Region.ready .any ops.toArray listed := mem_ready.2 ⟨by simpa using hl, ops[j], by rw [List.getElem?_toArray]; exact hoj, fun e he hb => by
     have hlt := regOk_after hreg hoj (by simpa using he) hb
     exact ih e.on hlt (by omega)⟩
    rw [hnil] at this; cases this
 intro fuel
 induction fuel with
 | zero =>
  intro listed a w hsz hcnt hcl hinv
  have hall : ∀ j, j < ops.length -> Lof listed j := fun j hj => (hsw listed j hsz hj).1 (cnt_zero (by omega) j hj)
  refine ⟨?_, ending listed a w hinv hall⟩
  cases hr : Region.ready .any ops.toArray listed with
  | nil => rfl
  | cons j r =>
   have hj : j ∈ Region.ready .any ops.toArray listed := by rw [hr]; exact List.mem_cons_self ..
   obtain ⟨h1, o, h2, _⟩ := mem_ready.1 hj
   have hlt : j < ops.length := by rw [List.getElem?_toArray] at h2; exact (List.getElem?_eq_some_iff.1 h2).1
   have := (hsw listed j hsz hlt).2 (hall j hlt)
   rw [h1] at this; cases this
 | succ fuel ih =>
  intro listed a w hsz hcnt hcl hinv
  refine ⟨fun hnil => ending listed a w hinv (nil_all listed hsz hnil), fun i hi => ?_⟩
  obtain ⟨h1, o, h2, h3⟩ := mem_ready.1 hi
  have ho : ops[i]? = some o := by rw [List.getElem?_toArray] at h2; exact h2
  have hlt : i < ops.length := (List.getElem?_eq_some_iff.1 ho).1
  have hn : ¬ Lof listed i := fun hl => by have := (hsw listed i hsz hlt).2 hl; rw [h1] at this; cases this
  have hL' : ∀ j, Lof (listed.setIfInBounds i true) j ↔ j = i ∨ Lof listed j := by
   intro j
   by_cases hij : i = j
   ·subst hij
    have : i < listed.size := by omega
    simp [Lof, this]
   ·unfold Lof
    rw [getD_set_ne false hij]
    constructor
    ·exact fun h => .inr h
    ·rintro (e | h)
     ·exact absurd e.symm hij
     ·exact h
  refine inv_step h hreg hc hok hw0 hst hpre hcl hinv ho hn (fun e he hb => h3 e (by simpa using he) hb) hL' (fun a' w' hinv' => ?_)
  refine ih _ a' w' (by simpa using hsz) ?_ ?_ hinv'
  ·have := cnt_set (listed := listed) (i := i) (by omega) h1 (n := ops.length) hlt
   omega
  ·intro y oy hy hly e he hb
   rcases (hL' y).1 hly with rfl | hl
   ·rw [ho] at hy; injection hy with hy; subst hy
    exact (hL' _).2 (.inr (h3 e (by simpa using he) hb))
   ·exact (hL' _).2 (.inr (hcl y oy hy hl e he hb))
end
theorem Good.drewUp {base : Nat} {S : St} (h : SR base S) (n : Nat) (hn : 0 ≤ 16000000) : Good base S ⟨⟨S.s.heap, S.s.next + n⟩, S.e, S.w.drew⟩ := by
 have hext : Ext S ⟨⟨S.s.heap, S.s.next + n⟩, S.e, S.w.drew⟩ := ⟨fun _ b hb => ⟨b, hb, Nat.le_refl _, Nat.le_refl _, rfl, fun _ _ _ => rfl⟩, fun _ es he => ⟨⟨es, he⟩, rfl⟩, fun _ arr _ fr hk => ⟨arr, fr, hk, rfl⟩⟩
 refine ⟨⟨hn, fun i o hi => by have := h.bound i o hi; show i < S.s.next + n; omega, h.low, fun i b hb c hc p hp => ?_, h.own, fun r es he => ?_, h.mapInj, h.size, h.inb⟩, hext, (Below.refl _ _).drew⟩
 ·obtain ⟨v, h1, h2⟩ := h.cell i b hb c hc p hp
  exact ⟨v, h1, h2.mono hext⟩
 ·obtain ⟨h1, es', clk, h2, h3⟩ := h.map r es he
  exact ⟨h1, es', clk, h2, h3.mono hext⟩
theorem drawRun_ok {P : Program} {call : Call} (hc : CallFr call) {Pre : Nat -> World -> Prop} (hok : CallOk P Pre call) (hst : Stays Pre) (hm : P.follows .mixedOrders = true) {id : Nat} {ops : Array Oper} (hreg : regOk P ops.toList = true) {base : Nat} {f f' : AFr} {s s' : ASt} {S : St} {a : Act}
  {Q : Exit -> Act -> World -> Prop} (hs : Same s S.s) (sr : SR base S) (hpre : Pre base S.w) (hf : FR S f a) (hr : drawRun P call ops.toList f s = some (f', s')) (hq : ∀ T a', Same s' T.s -> Good base S T -> FR T f' a' -> a'.defers = a.defers -> Q .normal a' T.w) :
  (Code.region id ops true).wp P Q a S.w := by
 have hwS := sr.wf
 obtain ⟨t', hr', hst', _⟩ := drawRun_fr hc hs (hs.wf hwS) hr
 obtain ⟨es, F, G, tr, rfl, rfl⟩ := drawRun_trial hr'
 have e : ops = ops.toList.toArray := by simp
 rw [e]
 refine wp_region_any hm ?_
 have hg := Good.drewUp sr (allocs P ops.toList) tr.room
 have hL : ∀ j, ¬ Lof (Array.replicate ops.toList.toArray.size false) j := by
  intro j hj
  simp only [Lof, Array.getD_eq_getD_getElem?, Array.getElem?_replicate] at hj
  split at hj <;> simp at hj
 refine any_ok tr hreg hc hok hwS hst (base := base) (S0 := S) (a0 := a) hpre (fun T a' h1 h2 h3 h4 => hq T a' ?_ h2 h3 h4) _ _ a _ (by simp) ?_ (fun y o _ hl => absurd hl (hL y)) ?_
 ·exact ⟨by rw [h1.next, hst'.next], (fun _ _ h => by cases h), fun i => by show T.s.heap.get i = s'.heap.get i; rw [h1.get i, hst'.get i]⟩
 ·have : ∀ n m, cnt (Array.replicate m false) n ≤ n := by
   intro n m
   induction n with
   | zero => exact Nat.le_refl _
   | succ n ih => simp only [cnt]; split <;> omega
  have := this ops.toList.length ops.toList.toArray.size
  simpa using this
 ·refine ⟨_, f, 0, rfl, hg, hf.mono hg.ext, rfl, by rw [tr.F0], Nat.zero_le _, fun x o _ _ => ⟨fun h => by omega, fun h => absurd h (hL x)⟩, ?_, ?_, ?_⟩
  ·rw [tr.G0]
   exact ⟨rfl, fun i o h => h, fun i j b _ _ h => absurd h (hL j), fun i h _ => h⟩
  ·intro j i b hm _
   have hb := (tr.bound hm).1
   show S.s.heap.get i = none
   cases hgi : S.s.heap.get i with
   | none => rfl
   | some o => have := hwS.bound i o hgi; omega
  ·intro i hi t ht
   rw [tr.Fc t 0 i (Nat.zero_le _) hi (fun x o _ hx h1 h2 => absurd ((ht x o h1 h2).1 hx) (hL x)), tr.F0]
end Go.Cl
namespace Go.Cl
open Go.RowKit
theorem runOps_ok {P : Program} {call : Call} {Pre : Nat -> World -> Prop} (hcall : CallOk P Pre call) (hst : Stays Pre) (all : List Oper) (base : Nat) : ∀ (l : List Oper) (f : AFr) (s : ASt) (S : St) (f' : AFr) (s' : ASt) (a : Act) (Q : Exit -> Act -> World -> Prop),
  runOps P call all l f s = some (f', s') -> Same s S.s -> SR base S -> Pre base S.w -> FR S f a -> (∀ T a', Same s' T.s -> Good base S T -> FR T f' a' -> a'.defers = a.defers -> Q .normal a' T.w) -> wpList P all.toArray Q l a S.w := by
 intro l
 induction l with
 | nil =>
  intro f s S f' s' a Q hr hss hs hpre hf hq
  simp only [runOps] at hr
  injection hr with hr; injection hr with e1 e2; subst e1; subst e2
  exact hq S a hss (Good.refl hs) hf rfl
 | cons o l ih =>
  intro f s S f' s' a Q hr hss hs hpre hf hq
  simp only [runOps] at hr
  unfold wpList
  rw [← wanted_eq hf]
  split at hr
  ·rename_i hw
   rw [if_pos hw]
   refine .inl ?_
   unfold Oper.wp
   split at hr
   ·rename_i v s1 hop
    split at hr
    ·rename_i f1 hp
     obtain ⟨t1, k1, k2, _⟩ := aop_fr hss (hss.wf hs.wf) hop
     obtain ⟨T, v', rfl, hv, hg, hrun⟩ := aop_ok hs hf _ k1
     have hf1 := (hf.mono hg.ext).put hv hp
     have next := ih f1 s1 T f' s' (a.put o.dst v') Q hr k2 hg.sr (hst _ _ _ hg.below hpre) hf1 (fun U a' e g hfa hd => hq U a' e (hg.trans g) hfa (hd.trans (put_defers _ _ _)))
     rcases hrun with hrun | ⟨hrun, rfl⟩
     ·rw [hrun]; exact next
     ·rw [hrun]; exact next
    ·cases hr
   ·rename_i g args hop
    split at hr
    ·rename_i v s1 hc
     split at hr
     ·rename_i f1 hp
      have k1 := aop_fr hss (hss.wf hs.wf) hop
      simp only [FrAR] at k1
      obtain ⟨args', hva, he⟩ := aop_ok hs hf _ k1
      rw [he]
      have fin : ∀ (T : St) (v' : Value), Same s1 T.s -> VR T v v' -> Good base S T -> wpList P all.toArray Q l (a.put o.dst v') T.w := by
       intro T v' hT hv hg
       have hf1 := (hf.mono hg.ext).put hv hp
       exact ih f1 s1 T f' s' (a.put o.dst v') Q hr hT hg.sr (hst _ _ _ hg.below hpre) hf1 (fun U a' e g hfa hd => hq U a' e (hg.trans g) hfa (hd.trans (put_defers _ _ _)))
      rcases hcall g base S s args v s1 hss hs hpre hc args' hva with ⟨hrun, hcalls⟩ | ⟨T, v', hrun, hT, hv, hg⟩
      ·rw [hrun]
       refine Calls.mono hcalls ?_
       rintro e w' ⟨T, v', hT, rfl, rfl, hv, hg⟩
       exact fin T v' hT hv hg
      ·rw [hrun]
       exact fin T v' hT hv hg
     ·cases hr
    ·cases hr
   ·cases hr
  ·rename_i hw
   rw [if_neg hw]
   split at hr
   ·rename_i f1 hp
    exact ih f1 s S f' s' (a.put o.dst undef) Q hr hss hs hpre (hf.put (VR.undef' S) hp) (fun U a' e g hfa hd => hq U a' e g hfa (hd.trans (put_defers _ _ _)))
   ·cases hr
theorem region_ok {P : Program} {call : Call} (hc : CallFr call) {Pre : Nat -> World -> Prop} (hcall : CallOk P Pre call) (hst : Stays Pre) (hm : P.follows .mixedOrders = true) {id : Nat} {ops : Array Oper} {d : Bool} {base : Nat} {f : AFr} {s : ASt} {S : St} {f' : AFr} {s' : ASt} {a : Act}
  {Q : Exit -> Act -> World -> Prop} (hr : (match d with
   | false => runOps P call ops.toList ops.toList f s
   | true => drawRun P call ops.toList f s) = some (f', s')) (hok : codeOk P (.region id ops d) = true) (hss : Same s S.s) (hs : SR base S) (hpre : Pre base S.w) (hf : FR S f a) (hq : ∀ T a', Same s' T.s -> Good base S T -> FR T f' a' -> a'.defers = a.defers -> Q .normal a' T.w) :
  (Code.region id ops d).wp P Q a S.w := by
 cases d with
 | false =>
  refine wp_region_list ?_
  have := runOps_ok hcall hst ops.toList base ops.toList f s S f' s' a Q hr hss hs hpre hf hq
  simpa using this
 | true => exact drawRun_ok hc hcall hst hm hok hss hs hpre hf hr hq
def exitOf : AX -> Exit
 | .normal => .normal
 | .exit id => .exit id
 | .ret => .ret
def ExecOk (P : Program) (Pre : Nat -> World -> Prop) (ex : Code -> AFr -> ASt -> Out) : Prop :=
 ∀ (c : Code) (base : Nat) (f : AFr) (s : ASt) (S : St) (x : AX) (f' : AFr) (s' : ASt) (a : Act) (Q : Exit -> Act -> World -> Prop), codeOk P c = true -> ex c f s = some (x, f', s') -> Same s S.s -> SR base S -> Pre base S.w -> FR S f a ->
  (∀ T a', Same s' T.s -> Good base S T -> FR T f' a' -> a'.defers = a.defers -> Q (exitOf x) a' T.w) -> c.wp P Q a S.w
def LoopOk (P : Program) (Pre : Nat -> World -> Prop) (ex : Code -> AFr -> ASt -> Out) (n : Nat) : Prop :=
 ∀ (c : Code) (base : Nat) (f : AFr) (s : ASt) (S : St) (x : AX) (f' : AFr) (s' : ASt) (a : Act) (Q : Exit -> Act -> World -> Prop), codeOk P c = true -> ex (.loop c) f s = some (x, f', s') -> Same s S.s -> SR base S -> Pre base S.w -> FR S f a ->
  (∀ T a', Same s' T.s -> Good base S T -> FR T f' a' -> a'.defers = a.defers -> Q (exitOf x) a' T.w) -> Code.rounds P c Q n a S.w
theorem setAll_get : ∀ (vs : List Value) (t : Tr Value) (i j : Nat), 0 ≤ 16000000 -> (setAll t i vs).get j = if i ≤ j ∧ j < i + vs.length then some (vs.getD (j - i) undef) else t.get j := by
 intro vs
 induction vs with
 | nil => intro t i j _; rw [setAll, if_neg (by simp)]
 | cons v r ih =>
  intro t i j h
  rw [setAll, ih _ _ _ (by omega)]
  by_cases hj : i + 1 ≤ j ∧ j < i + 1 + r.length
  ·rw [if_pos hj, if_pos (by simp; omega), show j - i = (j - (i + 1)) + 1 by omega, List.getD_cons_succ]
  ·rw [if_neg hj]
   by_cases hij : i = j
   ·subst hij
    rw [Tr.get_set_self _ _ _ _ (deep (by omega)), if_pos (by simp), Nat.sub_self, List.getD_cons_zero]
   ·rw [Tr.get_set_ne _ _ _ _ _ hij, if_neg (by simp; omega)]
theorem FR.enter {S : St} {fn : Func} {args : List Value} {args' : Array Value} (hv : VRL S args args'.toList) (hsm : args.length + (fn.ntmps - args.length) ≤ 16000000) :
  FR S (enterA fn args) { tmps := args' ++ Array.replicate (fn.ntmps - args'.size) undef, defers := [] } := by
 have hl : args.length = args'.size := by have := hv.1; simpa using this
 refine ⟨by simp [enterA, hl], hsm, fun t ht => ?_⟩
 have hget : (enterA fn args).get t = if t < args.length then args.getD t undef else undef := by
  simp only [enterA, AFr.get, setAll_get args .nil 0 t (by omega), Nat.zero_le, true_and, Nat.zero_add, Nat.sub_zero]
  by_cases h : t < args.length
  ·simp only [if_pos h]
  ·simp only [if_neg h, Tr.get]
 rw [hget]
 by_cases h : t < args.length
 ·rw [if_pos h]
  have e : (args' ++ Array.replicate (fn.ntmps - args'.size) undef).getD t undef = args'.toList.getD t undef := by
   have h2 : t < args'.size := by omega
   simp [Array.getElem?_append, h2]
  rw [e]
  exact hv.2 t h
 ·rw [if_neg h]
  have e : (args' ++ Array.replicate (fn.ntmps - args'.size) undef).getD t undef = undef := by
   have h2 : ¬ t < args'.size := by omega
   simp [Array.getElem?_append, h2, Array.getElem?_replicate]
   by_cases h3 : t - args'.size < fn.ntmps - args'.size
   ·rw [if_pos h3]; rfl
   ·rw [if_neg h3]; rfl
  rw [e]
  exact VR.undef' S
theorem resultsA_ok {P : Program} {base : Nat} {S : St} (hs : SR base S) {f : AFr} {a : Act} (hf : FR S f a) : ∀ {rs : List ResultVar} {l : List Value}, resultsA P f S.s rs = some l ->
  ∃ l', (rs.mapM fun (r : ResultVar) => (match r with | .tmp t => pure (a.tmps.getD t undef) | .cell x t => do loadVar t (← asAddr (a.tmps.getD x undef)) : Sem Value)).run P S.w = .ok l' S.w ∧ VRL S l l' := by
 intro rs
 induction rs with
 | nil => intro l h; simp only [resultsA] at h; obtain rfl := Option.some.inj h; exact ⟨[], by simp, VRL.nil⟩
 | cons r rs ih =>
  intro l h
  cases r with
  | tmp t =>
   simp only [resultsA] at h
   split at h
   ·rename_i ht
    split at h
    ·rename_i m hm
     obtain rfl := Option.some.inj h
     obtain ⟨l', h1, h2⟩ := ih hm
     refine ⟨a.tmps.getD t undef :: l', ?_, VRL.cons (hf.get t (by simpa [Nat.blt_eq] using ht)) h2⟩
     rw [List.mapM_cons]
     simp only [Sem.run_bind, Sem.run_pure, Result.andThen_ok, h1]
    ·cases h
   ·cases h
  | cell x t =>
   simp only [resultsA] at h
   split at h
   ·rename_i hx
    split at h
    ·rename_i v m hv hm
     obtain rfl := Option.some.inj h
     obtain ⟨l', h1, h2⟩ := ih hm
     have hp := hf.get x (by simpa [Nat.blt_eq] using hx)
     obtain ⟨v', h3, h4⟩ := loadA_ok hs hp hv
     unfold loadA at hv
     split at hv
     ·rename_i i off c hpe
      rw [hpe] at hp
      obtain ⟨a1, e1, _⟩ := hp.ptr_inv
      rw [e1] at h3
      simp only [Instr.loadAt, Instr.sureAddr, pure_bind] at h3
      refine ⟨v' :: l', ?_, VRL.cons h4 h2⟩
      rw [List.mapM_cons]
      have ea : asAddr (a.tmps.getD x undef) = pure a1 := by rw [e1]; rfl
      simp only [ea, Sem.run_bind, Sem.run_pure, Result.andThen_ok, h3, h1]
     ·cases hv
    ·cases h
   ·cases h
def LibOk (P : Program) (Pre : Nat -> World -> Prop) (lib : Prims) : Prop := ∀ g p, lib.at g = some p -> PrimOk P Pre g p
theorem LibOk.nil (P : Program) (Pre : Nat -> World -> Prop) : LibOk P Pre [] := fun _ _ h => by cases h
theorem call_enters {P : Program} {Pre : Nat -> World -> Prop} {lib : Prims} {ex : Code -> AFr -> ASt -> Out} (hfn : ∀ g fn, P.funcs[g]? = some fn -> fnOk P lib g fn = true) (hex : ExecOk P Pre ex) {g : FuncId} (hbad : lib.at g = none)
  (base : Nat) (S : St) (s : ASt) (args : List Value) (v : Value) (s' : ASt) (hss : Same s S.s) (hs : SR base S) (hpre : Pre base S.w) (hc : callStep P lib ex g args s = some (v, s')) (args' : Array Value) (hva : VRL S args args'.toList) :
  (∀ w, (callFunc g args').run P w = .ok (.enter g args') w) ∧ Calls P g args' S.w fun e w' => ∃ T v', Same s' T.s ∧ T.w = w' ∧ e = .returned v' ∧ VR T v v' ∧ Good base S T := by
 unfold callStep at hc
 rw [hbad] at hc
 simp only at hc
 split at hc
 case h_2 => cases hc
 rename_i fn hg
 split at hc
 case h_2 => cases hc
 rename_i c hb hsm
 have hk := hfn g fn hg
 simp only [fnOk, Bool.and_eq_true, Bool.or_eq_true, hbad, hb, bne_iff_ne, ne_eq] at hk
 obtain ⟨hname, hcode⟩ := hk
 have hcode' : codeOk P c = true := by simpa using hcode
 refine ⟨fun w => ?_, ?_⟩
 ·simp [callFunc, hg, hname, hb]
 have hfr : FR S (enterA fn args) { tmps := args' ++ Array.replicate (fn.ntmps - args'.size) undef, defers := [] } := FR.enter hva (by simpa [Nat.ble_eq] using hsm)
 have fin : ∀ (x : AX) (f : AFr) (l : List Value), (x = .normal ∨ x = .ret) -> ex c (enterA fn args) s = some (x, f, s') -> resultsA P f s' fn.results.toList = some l -> v = oneOf l ->
   Calls P g args' S.w fun e w' => ∃ T v', Same s' T.s ∧ T.w = w' ∧ e = .returned v' ∧ VR T v v' ∧ Good base S T := by
  intro x f l hx he hl hv
  refine calls_of_wp hg hb (hex c base _ s S x f s' _ _ hcode' he hss hs hpre hfr ?_)
  intro T a' hTs hgood hfa hda
  obtain ⟨l', h1, h2⟩ := resultsA_ok hgood.sr hfa (resultsA_fr hTs hl)
  have hlen := h2.1
  have hres : ∃ v', (results fn a'.tmps).run P T.w = .ok v' T.w ∧ VR T v v' := by
   have hm : (results fn a'.tmps).run P T.w = .ok (if h : l'.toArray.size = 1 then l'.toArray[0] else .tuple l'.toArray) T.w := by
    unfold results
    rw [Array.mapM_eq_mapM_toList]
    simp only [Sem.run_bind, Sem.run_map]
    refine (congrArg (fun r => Result.andThen (Result.andThen r _) _) h1).trans ?_
    simp only [Result.andThen_ok, Sem.run_pure]
   refine ⟨_, hm, ?_⟩
   subst hv
   cases l with
   | nil => rw [h2.nil_inv]; exact VRL.tuple VRL.nil
   | cons v0 r =>
    obtain ⟨v1, r', rfl, h3, h4⟩ := h2.cons_inv
    cases r with
    | nil =>
     rw [h4.nil_inv]
     simpa [oneOf] using h3
    | cons v2 r2 =>
     obtain ⟨v3, r3, rfl, h5, h6⟩ := h4.cons_inv
     have := VRL.tuple (VRL.cons h3 (VRL.cons h5 h6))
     simpa [oneOf] using this
  obtain ⟨v', h3, h4⟩ := hres
  rcases hx with rfl | rfl
  ·exact ⟨hda, v', h3, T, v', hTs, rfl, rfl, h4, hgood⟩
  ·exact ⟨hda, v', h3, T, v', hTs, rfl, rfl, h4, hgood⟩
 split at hc
 ·rename_i f s1 he
  split at hc
  ·rename_i l hl
   injection hc with hc; injection hc with e1 e2; subst e1; subst e2
   exact fin .normal f l (.inl rfl) he hl rfl
  ·cases hc
 ·rename_i f s1 he
  split at hc
  ·rename_i l hl
   injection hc with hc; injection hc with e1 e2; subst e1; subst e2
   exact fin .ret f l (.inr rfl) he hl rfl
  ·cases hc
 ·cases hc
theorem call_ok {P : Program} {Pre : Nat -> World -> Prop} {lib : Prims} (hlib : LibOk P Pre lib) {ex : Code -> AFr -> ASt -> Out} (hfn : ∀ g fn, P.funcs[g]? = some fn -> fnOk P lib g fn = true) (hex : ExecOk P Pre ex) : CallOk P Pre (callStep P lib ex) := by
 intro g base S s args v s' hss hs hpre hc args' hva
 cases hg : lib.at g with
 | some p =>
  unfold callStep at hc
  rw [hg] at hc
  exact hlib g p hg base S s args v s' hss hs hpre hc args' hva
 | none => exact .inl (call_enters hfn hex hg base S s args v s' hss hs hpre hc args' hva)
theorem exec_ok {P : Program} {Pre : Nat -> World -> Prop} (hst : Stays Pre) {lib : Prims} (hlf : LibFr lib) (hlib : LibOk P Pre lib) (hm : P.follows .mixedOrders = true) (hfn : ∀ g fn, P.funcs[g]? = some fn -> fnOk P lib g fn = true) : ∀ n, ExecOk P Pre (exec P lib n) ∧ LoopOk P Pre (exec P lib n) n := by
 intro n
 induction n with
 | zero => exact ⟨fun c base f s S x f' s' a Q _ h => (by simp [exec] at h), fun c base f s S x f' s' a Q _ h => (by simp [exec] at h)⟩
 | succ n ih =>
  obtain ⟨ihE, ihL⟩ := ih
  have hcall := call_ok hlib hfn ihE
  have hcfr : CallFr (callStep P lib (exec P lib n)) := callStep_fr hlf (exec_fr hlf n)
  have hloop : LoopOk P Pre (exec P lib (n + 1)) (n + 1) := by
   intro c base f s S x f' s' a Q hok h hss hs hpre hf hq
   simp only [exec, step] at h
   rw [rounds_succ]
   split at h
   ·rename_i f1 s1 h1
    refine ihE c base f s S .normal f1 s1 a _ hok h1 hss hs hpre hf (fun T a' hT hg hfa hda => ?_)
    exact ihL c base f1 s1 T x f' s' a' Q hok h hT hg.sr (hst _ _ _ hg.below hpre) hfa (fun U a2 e g hf2 hd2 => hq U a2 e (hg.trans g) hf2 (hd2.trans hda))
   ·rename_i h1
    refine ihE c base f s S x f' s' a _ hok h hss hs hpre hf (fun T a' hT hg hfa hda => ?_)
    have hne : x ≠ .normal := fun e => h1 _ _ (by rw [← e]; exact h)
    have := hq T a' hT hg hfa hda
    cases x with
    | normal => exact absurd rfl hne
    | exit id => exact this
    | ret => exact this
  refine ⟨?_, hloop⟩
  intro c base f s S x f' s' a Q hok h hss hs hpre hf hq
  cases c with
  | loop c =>
   refine wp_loop_rounds (n + 1) (hloop c base f s S x f' s' a Q (by simpa [codeOk] using hok) h hss hs hpre hf hq)
  | skip =>
   simp only [exec, step] at h
   injection h with h; injection h with e1 e2; injection e2 with e2 e3; subst e1; subst e2; subst e3
   exact wp_skip (hq S a hss (Good.refl hs) hf rfl)
  | label l =>
   simp only [exec, step] at h
   injection h with h; injection h with e1 e2; injection e2 with e2 e3; subst e1; subst e2; subst e3
   exact wp_label (hq S a hss (Good.refl hs) hf rfl)
  | exit id =>
   simp only [exec, step] at h
   injection h with h; injection h with e1 e2; injection e2 with e2 e3; subst e1; subst e2; subst e3
   exact wp_exit (hq S a hss (Good.refl hs) hf rfl)
  | ret =>
   simp only [exec, step] at h
   injection h with h; injection h with e1 e2; injection e2 with e2 e3; subst e1; subst e2; subst e3
   exact wp_ret (hq S a hss (Good.refl hs) hf rfl)
  | region id ops d =>
   simp only [exec, step] at h
   split at h
   ·rename_i f1 s1 h1
    injection h with h; injection h with e1 e2; injection e2 with e2 e3; subst e1; subst e2; subst e3
    exact region_ok hcfr hcall hst hm h1 hok hss hs hpre hf hq
   ·cases h
  | seq p q =>
   simp only [codeOk, Bool.and_eq_true] at hok
   simp only [exec, step] at h
   refine wp_seq ?_
   split at h
   ·rename_i f1 s1 h1
    refine ihE p base f s S .normal f1 s1 a _ hok.1 h1 hss hs hpre hf (fun T a' hT hg hfa hda => ?_)
    exact ihE q base f1 s1 T x f' s' a' Q hok.2 h hT hg.sr (hst _ _ _ hg.below hpre) hfa (fun U a2 e g hf2 hd2 => hq U a2 e (hg.trans g) hf2 (hd2.trans hda))
   ·rename_i h1
    refine ihE p base f s S x f' s' a _ hok.1 h hss hs hpre hf (fun T a' hT hg hfa hda => ?_)
    have hne : x ≠ .normal := fun e => h1 _ _ (by rw [← e]; exact h)
    have := hq T a' hT hg hfa hda
    cases x with
    | normal => exact absurd rfl hne
    | exit id => exact this
    | ret => exact this
  | cond y p q =>
   simp only [codeOk, Bool.and_eq_true] at hok
   simp only [exec, step] at h
   split at h
   ·rename_i t hy
    have hv := evalA_ok hf hy
    generalize hcv : a.eval y = cv at hv
    cases hv
    split at h
    ·exact wp_cond_true hcv (ihE p base f s S x f' s' a Q hok.1 h hss hs hpre hf hq)
    ·exact wp_cond_false hcv (ihE q base f s S x f' s' a Q hok.2 h hss hs hpre hf hq)
   ·cases h
  | block id p =>
   simp only [codeOk] at hok
   simp only [exec, step] at h
   refine wp_block ?_
   split at h
   ·rename_i j f1 s1 h1
    split at h
    ·rename_i hj
     have hj' : j = id := by simpa [Nat.beq_eq] using hj
     injection h with h; injection h with e1 e2; injection e2 with e2 e3; subst e1; subst e2; subst e3
     refine ihE p base f s S (.exit j) f1 s1 a _ hok h1 hss hs hpre hf (fun T a' hT hg hfa hda => ?_)
     simp only [exitOf, Exit.inBlock, hj', if_true]
     exact hq T a' hT hg hfa hda
    ·rename_i hj
     have hj' : ¬ j = id := by simpa [Nat.beq_eq] using hj
     injection h with h; injection h with e1 e2; injection e2 with e2 e3; subst e1; subst e2; subst e3
     refine ihE p base f s S (.exit j) f1 s1 a _ hok h1 hss hs hpre hf (fun T a' hT hg hfa hda => ?_)
     simp only [exitOf, Exit.inBlock, hj', if_false]
     exact hq T a' hT hg hfa hda
   ·rename_i h1
    refine ihE p base f s S x f' s' a _ hok h hss hs hpre hf (fun T a' hT hg hfa hda => ?_)
    have := hq T a' hT hg hfa hda
    cases x with
    | normal => exact this
    | exit j => exact absurd h (h1 _ _ _)
    | ret => exact this
  | scope p =>
   simp only [codeOk] at hok
   simp only [exec, step] at h
   refine wp_scope_straight ?_
   refine ihE p base f s S x f' s' a _ hok h hss hs hpre hf (fun T a' hT hg hfa hda => ?_)
   have := hq T a' hT hg hfa hda
   cases x <;> exact this
  | rangeFunc y ps p q => simp [exec, step] at h
  | goto l => simp [exec, step] at h
  | refuse w => simp [exec, step] at h
theorem progOk_spec {P : Program} {lib : Prims} (h : progOk P lib = true) : P.follows .mixedOrders = true ∧ ∀ g fn, P.funcs[g]? = some fn -> fnOk P lib g fn = true := by
 simp only [progOk, Bool.and_eq_true, List.all_eq_true] at h
 refine ⟨h.1, fun g fn hg => ?_⟩
 refine h.2 (fn, g) ?_
 rw [List.mem_zipIdx_iff_getElem?]
 simpa using hg
theorem acall_enters {P : Program} {Pre : Nat -> World -> Prop} (hst : Stays Pre) {lib : Prims} (hlf : LibFr lib) (hlib : LibOk P Pre lib) (h : progOk P lib = true) (n : Nat) {g : FuncId} (hg : lib.at g = none)
  (base : Nat) (S : St) (s : ASt) (args : List Value) (v : Value) (s' : ASt) (hss : Same s S.s) (hs : SR base S) (hpre : Pre base S.w) (hc : acall P lib n g args s = some (v, s')) (args' : Array Value) (hva : VRL S args args'.toList) :
  Calls P g args' S.w fun e w' => ∃ T v', Same s' T.s ∧ T.w = w' ∧ e = .returned v' ∧ VR T v v' ∧ Good base S T := by
 obtain ⟨hm, hfn⟩ := progOk_spec h
 exact (call_enters hfn (exec_ok hst hlf hlib hm hfn n).1 hg base S s args v s' hss hs hpre hc args' hva).2
end Go.Cl
namespace Go.Cl
open Go.RowKit
def St.start (w : World) : St := ⟨ASt.empty, ⟨fun _ _ => (0, 0), fun _ => 0⟩, w⟩
theorem SR.start (w : World) : SR w.heap.size (St.start w) := by
 refine ⟨by omega, ?_, ?_, ?_, ?_, ?_, ?_, Nat.le_refl _, ?_⟩ <;> intros <;> simp_all [St.start, ASt.empty, ASt.blk?, ASt.map?, Tr.get]
end Go.Cl