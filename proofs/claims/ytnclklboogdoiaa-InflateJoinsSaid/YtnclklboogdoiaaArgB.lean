/-
  Objects: what they are, and how they stand in memory.
-/
import Derived.Test.YtnclklboogdoiaaLow
import Derived.Test.YtnclklboogdoiaaTy
set_option linter.unusedSimpArgs false
set_option linter.unusedVariables false
set_option maxRecDepth 100000
namespace Go.Cl
inductive O where
  | mk (kind n : Int) (b : List UInt8) (l : List O) (d : List (List UInt8 × O))
namespace O
def kind : O → Int
  | .mk k _ _ _ _ => k
def bytes : O → List UInt8
  | .mk _ _ b _ _ => b
def none : O := .mk 0 0 [] [] []
end O
def Foot (F : Nat → Prop) : Value → Prop
  | .slice (some a) _ c => c ≠ 0 → F a.block
  | _ => True
theorem Foot.mono {F G : Nat → Prop} {v : Value} (h : Foot F v) (k : ∀ j, F j → G j) : Foot G v := by
  unfold Foot at *
  split
  · exact fun hc => k _ (h hc)
  · trivial
theorem Foot.of_id {F : Nat → Prop} {v : Value} (h : ∀ j, idOf v = some j → F j) : Foot F v := by
  unfold Foot
  split
  · exact fun _ => h _ rfl
  · trivial
theorem Foot.fresh {base : Nat} {v : Value} (h : Fresh base v) : Foot (fun j => base ≤ j) v := Foot.of_id h
theorem Foot.nil (F : Nat → Prop) : Foot F (.slice none 0 0) := trivial
theorem Sees.turnsF {F : Nat → Prop} {s s' : ASt} {z : Nat} {v u : Value} {n : Nat} {l : List Value} (h : Sees s z v n l) (hf : Foot F v) (k : Turns u s s') (hne : ∀ j, F j → idOf u ≠ some j) : Sees s' z v n l := by
  cases h with
  | nil => exact .nil
  | bare i off => exact .bare i off
  | of i off n c b l hi hb hz hl hc hlen hoff ht =>
    have hF : F i := hf (by omega)
    refine .of i off n c b l (Nat.lt_of_lt_of_le hi k.next) ?_ hz hl hc hlen hoff ht
    simp only [ASt.blk?, k.get i hi (hne i hF)]; exact hb
inductive OIs (F : Nat → Prop) (s : ASt) : List Value → O → Prop
  | mk (kind n : Int) (b : List UInt8) (l : List O) (d : List (List UInt8 × O)) (bv lv dv : Value) (lc dc : List Value)
      (hb : Sees s 1 bv b.length (ofBytes b)) (hl : Sees s 5 lv l.length lc) (hd : Sees s 6 dv d.length dc)
      (fb : Foot F bv) (fl : Foot F lv) (fd : Foot F dv)
      (hL : ∀ i (h : i < l.length), OIs F s ((lc.drop (i * 5)).take 5) l[i])
      (hK : ∀ i (h : i < d.length), dc.getD (i * 6) undef = .string ⟨(d[i].1).toArray⟩)
      (hD : ∀ i (h : i < d.length), OIs F s ((dc.drop (i * 6 + 1)).take 5) d[i].2)
      (hM : ∀ i (h : i < d.length), (d[i].1).length ≤ 9223372036854775807) :
      OIs F s [.int .i64 kind, .int .i64 n, bv, lv, dv] (.mk kind n b l d)
variable {F G : Nat → Prop} {s s' : ASt} {cs : List Value} {o : O}
theorem OIs.keeps (h : OIs F s cs o) (k : Stay s.next s s') : OIs F s' cs o := by
  induction h with
  | mk kind n b l d bv lv dv lc dc hb hl hd fb fl fd _ hK _ hM hL hD => exact .mk kind n b l d bv lv dv lc dc (hb.keeps k) (hl.keeps k) (hd.keeps k) fb fl fd hL hK hD hM
theorem OIs.mono (h : OIs F s cs o) (k : ∀ j, F j → G j) : OIs G s cs o := by
  induction h with
  | mk kind n b l d bv lv dv lc dc hb hl hd fb fl fd _ hK _ hM hL hD => exact .mk kind n b l d bv lv dv lc dc hb hl hd (fb.mono k) (fl.mono k) (fd.mono k) hL hK hD hM
theorem OIs.turns {u : Value} (h : OIs F s cs o) (k : Turns u s s') (hne : ∀ j, F j → idOf u ≠ some j) : OIs F s' cs o := by
  induction h with
  | mk kind n b l d bv lv dv lc dc hb hl hd fb fl fd _ hK _ hM hL hD => exact .mk kind n b l d bv lv dv lc dc (hb.turnsF fb k hne) (hl.turnsF fl k hne) (hd.turnsF fd k hne) fb fl fd hL hK hD hM
theorem OIs.len (h : OIs F s cs o) : cs.length = 5 := by cases h; rfl
theorem OIs.ok (h : OIs F s cs o) : cs.all okCell = true := by
  cases h with
  | mk kind n b l d bv lv dv lc dc hb hl hd fb fl fd hL hK hD hM =>
    have h1 := hb.okCell
    have h2 := hl.okCell
    have h3 := hd.okCell
    simp only [List.all_cons, List.all_nil, h1, h2, h3]; rfl
theorem valEq_agg5 {a b c d e : Value} (h1 : valEq1 a a = true) (h2 : valEq1 b b = true) (h3 : valEq1 c c = true) (h4 : valEq1 d d = true) (h5 : valEq1 e e = true) : valEq (.agg #[a, b, c, d, e]) (.agg #[a, b, c, d, e]) = true := by
  simp [valEq, valEqL, h1, h2, h3, h4, h5]
theorem Sees.self1 {s : ASt} {z : Nat} {v : Value} {n : Nat} {l : List Value} (h : Sees s z v n l) : valEq1 v v = true := by
  cases h <;> simp [valEq1, Nat.beq_refl]
theorem OIs.self (h : OIs F s cs o) : valEq (.agg cs.toArray) (.agg cs.toArray) = true := by
  cases h with
  | mk kind n b l d bv lv dv lc dc hb hl hd fb fl fd hL hK hD hM =>
    exact valEq_agg5 (by simp [valEq1]) (by simp [valEq1]) hb.self1 hl.self1 hd.self1
theorem OIs.inv {kind n : Int} {b : List UInt8} {l : List O} {d : List (List UInt8 × O)} (h : OIs F s cs (.mk kind n b l d)) : ∃ bv lv dv lc dc, cs = [.int .i64 kind, .int .i64 n, bv, lv, dv] ∧ Sees s 1 bv b.length (ofBytes b) ∧ Sees s 5 lv l.length lc ∧ Sees s 6 dv d.length dc ∧ Foot F bv ∧ Foot F lv ∧ Foot F dv ∧
    (∀ i (h : i < l.length), OIs F s ((lc.drop (i * 5)).take 5) l[i]) ∧ (∀ i (h : i < d.length), dc.getD (i * 6) undef = .string ⟨(d[i].1).toArray⟩) ∧ (∀ i (h : i < d.length), OIs F s ((dc.drop (i * 6 + 1)).take 5) d[i].2) ∧ (∀ i (h : i < d.length), (d[i].1).length ≤ 9223372036854775807) := by
  cases h with
  | mk _ _ _ _ _ bv lv dv lc dc hb hl hd fb fl fd hL hK hD hM => exact ⟨bv, lv, dv, lc, dc, rfl, hb, hl, hd, fb, fl, fd, hL, hK, hD, hM⟩
def noneC : List Value := [.int .i64 0, .int .i64 0, .slice Option.none 0 0, .slice Option.none 0 0, .slice Option.none 0 0]
theorem OIs.none (F : Nat → Prop) (s : ASt) : OIs F s noneC O.none :=
  .mk 0 0 [] [] [] _ _ _ [] [] .nil .nil .nil trivial trivial trivial (fun i h => absurd h (Nat.not_lt_zero i)) (fun i h => absurd h (Nat.not_lt_zero i)) (fun i h => absurd h (Nat.not_lt_zero i)) (fun i h => absurd h (Nat.not_lt_zero i))
theorem Foot.below {z : Nat} {v : Value} {n : Nat} {l : List Value} (h : Sees s z v n l) (hf : Foot F v) : Foot (fun j => F j ∧ j < s.next) v := by
  cases h with
  | nil => trivial
  | bare i off => exact fun hc => absurd rfl hc
  | of i off n c b l hi hb hz hl hc hlen hoff ht => exact fun hc0 => ⟨hf hc0, hi⟩
structure Rowed {α : Type} (Q : (Nat → Prop) → ASt → List Value → α → Prop) : Prop where
  keeps : ∀ {F s s' cs d}, Q F s cs d → Stay s.next s s' → Q F s' cs d
  mono : ∀ {F G : Nat → Prop} {s cs d}, Q F s cs d → (∀ j, F j → G j) → Q G s cs d
  turns : ∀ {F : Nat → Prop} {s s' cs d u}, Q F s cs d → Turns u s s' → (∀ j, F j → idOf u ≠ some j) → Q F s' cs d
  below : ∀ {F : Nat → Prop} {s cs d}, Q F s cs d → Q (fun j => F j ∧ j < s.next) s cs d
def EntIs (F : Nat → Prop) (s : ASt) (cs : List Value) (e : List UInt8 × O) : Prop := ∃ r, cs = .string ⟨e.1.toArray⟩ :: r ∧ OIs F s r e.2 ∧ e.1.length ≤ 9223372036854775807
theorem EntIs.keeps {e : List UInt8 × O} (h : EntIs F s cs e) (k : Stay s.next s s') : EntIs F s' cs e := by
  obtain ⟨r, h1, h2, h3⟩ := h; exact ⟨r, h1, h2.keeps k, h3⟩
theorem EntIs.mono {e : List UInt8 × O} (h : EntIs F s cs e) (k : ∀ j, F j → G j) : EntIs G s cs e := by
  obtain ⟨r, h1, h2, h3⟩ := h; exact ⟨r, h1, h2.mono k, h3⟩
structure ORows {α : Type} (Q : (Nat → Prop) → ASt → List Value → α → Prop) (z : Nat) (F : Nat → Prop) (s : ASt) (D : List α) (lc : List Value) : Prop where
  len : lc.length = D.length * z
  row : ∀ i (h : i < D.length), Q F s ((lc.drop (i * z)).take z) D[i]
section
variable {α : Type} {Q : (Nat → Prop) → ASt → List Value → α → Prop} {z : Nat} {D : List α} {lc : List Value}
theorem ORows.nil : ORows Q z F s [] [] := ⟨by simp, fun i h => absurd h (Nat.not_lt_zero i)⟩
theorem ORows.keeps (hQ : Rowed Q) (h : ORows Q z F s D lc) (k : Stay s.next s s') : ORows Q z F s' D lc := ⟨h.len, fun i hi => hQ.keeps (h.row i hi) k⟩
theorem ORows.mono (hQ : Rowed Q) (h : ORows Q z F s D lc) (k : ∀ j, F j → G j) : ORows Q z G s D lc := ⟨h.len, fun i hi => hQ.mono (h.row i hi) k⟩
theorem ORows.turns {u : Value} (hQ : Rowed Q) (h : ORows Q z F s D lc) (k : Turns u s s') (hne : ∀ j, F j → idOf u ≠ some j) : ORows Q z F s' D lc := ⟨h.len, fun i hi => hQ.turns (h.row i hi) k hne⟩
theorem ORows.below (hQ : Rowed Q) (h : ORows Q z F s D lc) : ORows Q z (fun j => F j ∧ j < s.next) s D lc := ⟨h.len, fun i hi => hQ.below (h.row i hi)⟩
end
theorem OIs.parts {kind n : Int} {b : List UInt8} {l : List O} {d : List (List UInt8 × O)} (h : OIs F s cs (.mk kind n b l d)) : ∃ bv lv dv lc dc, cs = [.int .i64 kind, .int .i64 n, bv, lv, dv] ∧ Sees s 1 bv b.length (ofBytes b) ∧ Sees s 5 lv l.length lc ∧ Sees s 6 dv d.length dc ∧ Foot F bv ∧ Foot F lv ∧ Foot F dv ∧ ORows OIs 5 F s l lc ∧ ORows EntIs 6 F s d dc := by
  obtain ⟨bv, lv, dv, lc, dc, h1, h2, h3, h4, h5, h6, h7, hL, hK, hD, hM⟩ := h.inv
  refine ⟨bv, lv, dv, lc, dc, h1, h2, h3, h4, h5, h6, h7, ⟨h3.length, hL⟩, ⟨h4.length, fun i hi => ⟨_, ?_, hD i hi, hM i hi⟩⟩⟩
  have hk := hK i hi
  have hlt : i * 6 < dc.length := by rw [h4.length]; omega
  rw [List.getD_eq_getElem?_getD, List.getElem?_eq_getElem hlt] at hk
  have hk : dc[i * 6] = .string ⟨(d[i].1).toArray⟩ := hk
  rw [List.drop_eq_getElem_cons hlt, List.take_succ_cons, hk]
inductive Small : O → Prop
  | mk {k n : Int} {b : List UInt8} {l : List O} {d : List (List UInt8 × O)} (hb : b.length ≤ 100000) (hl : l.length ≤ 100000) (hd : d.length ≤ 100000) (hK : ∀ e ∈ d, e.1.length ≤ 100000) (hL : ∀ x ∈ l, Small x) (hD : ∀ e ∈ d, Small e.2) : Small (.mk k n b l d)
inductive Fit : O → Prop
  | mk {k n : Int} {b : List UInt8} {l : List O} {d : List (List UInt8 × O)} (hb : b.length ≤ 140737488351232) (hl : l.length ≤ 140737488351232) (hd : d.length ≤ 140737488351232) (hK : ∀ e ∈ d, e.1.length ≤ 140737488351232) (hL : ∀ x ∈ l, Fit x) (hD : ∀ e ∈ d, Fit e.2) : Fit (.mk k n b l d)
end Go.Cl
set_option linter.unusedSimpArgs false
set_option linter.unusedVariables false
set_option maxRecDepth 100000
namespace Go.Cl
open Go.RowKit Go.ChangeShapes Go.WideShapes
structure Grew (W : World) (S S' : St) : Prop where
  begun : Begun W S'
  ext : Ext S S'
  stay : Stay S.s.next S.s S'.s
theorem Grew.refl {W : World} {S : St} (h : Begun W S) : Grew W S S := ⟨h, Ext.refl S, Stay.refl _ _⟩
theorem Grew.trans {W : World} {S S' S'' : St} (h : Grew W S S') (k : Grew W S' S'') : Grew W S S'' := ⟨k.begun, h.ext.trans k.ext, h.stay.trans (k.stay.weaken h.stay.next)⟩
variable {H : Type} {enc : TypeId × Value → H} {P : Program}
theorem take_chunk {z : Nat} (l m : List Value) (i : Nat) (h : (i + 1) * z ≤ l.length) : ((l ++ m).drop (i * z)).take z = (l.drop (i * z)).take z := by
  rw [Nat.succ_mul] at h
  rw [List.drop_append_of_le_length (by omega), List.take_append_of_le_length (by rw [List.length_drop]; omega)]
def Wt (P : Program) (t : TypeId) (d : DataW H) : Prop := ∀ n ∈ d.weights P t, n ≤ reachBytes
theorem weightsAll_mem {e : TypeId} : ∀ {ds : List (DataW H)} {d : DataW H}, d ∈ ds → ∀ n ∈ d.weights P e, n ∈ DataW.weightsAll P e ds
  | _ :: _, d, hd, n, hn => by
    rw [DataW.weightsAll, List.mem_append]
    rcases List.mem_cons.1 hd with h | h
    · subst h; exact .inl hn
    · exact .inr (weightsAll_mem h n hn)
theorem Wt.slice {t e : TypeId} (ht : P.underlying t = some (.slice e)) {E R : List (DataW H)} (h : Wt P t (.slice E R)) : (E.length + R.length) * P.bytesOf e ≤ reachBytes ∧ ∀ d ∈ E, Wt P e d := by
  refine ⟨h _ (by simp [DataW.weights, ht]), fun d hd n hn => h n ?_⟩
  simp only [DataW.weights, ht, List.mem_cons, List.mem_append]
  exact .inr (.inl (weightsAll_mem hd n hn))
theorem Wt.struct {t : TypeId} {fs : Array Field} (ht : P.underlying t = some (.struct fs)) {xs : List (DataW H)} (h : Wt P t (.agg xs)) {i : Nat} {u : TypeId} {d : DataW H} (hu : (fs.toList.map (·.type))[i]? = some u) (hd : xs[i]? = some d) : Wt P u d := by
  intro n hn
  refine h n ?_
  simp only [DataW.weights, ht]
  exact DataW.weights_mem_each hu hd n hn
theorem rows_open {W : World} {S : St} (h : Begun W S) {α : Type} {Q : (Nat → Prop) → ASt → List Value → α → Prop} {p : α → Prop} (hQ : ∀ {F s s' cs d}, Q F s cs d → Stay s.next s s' → Q F s' cs d) (hM : ∀ {F G : Nat → Prop} {s cs d}, Q F s cs d → (∀ j, F j → G j) → Q G s cs d) {t e : TypeId} {z fuel : Nat} (ht : P.underlying t = some (.slice e)) (hc : P.cellsOf e = z) (hz : 0 < z) (hb1 : 1 ≤ P.bytesOf e)
    (hel : ∀ n, n < fuel → ∀ S : St, Begun W S → ∀ cs x, DataW.trod enc P W 0 (fun _ => true) true n e cs = some x → Wt P e x.1 → ∃ S' cs' d, Grew W S S' ∧ VRL S' cs' cs ∧ cs'.length = z ∧ Q (fun j => j < S'.s.next) S'.s cs' d ∧ p d)
    {cs : List Value} {x : DataW H × List MemPlace} (hf : DataW.trod enc P W 0 (fun _ => true) true fuel t cs = some x) (hwt : Wt P t x.1) :
    ∃ (S' : St) (v' v : Value) (lc : List Value) (D : List α), cs = [v] ∧ Grew W S S' ∧ VR S' v' v ∧ Sees S'.s z v' D.length lc ∧ Foot (fun j => j < S'.s.next) v' ∧ (∀ i (h : i < D.length), Q (fun j => j < S'.s.next) S'.s ((lc.drop (i * z)).take z) D[i]) ∧ (∀ d ∈ D, p d) ∧ D.length ≤ reachBytes := by
  rcases DataW.trod_slice ht hf with ⟨rfl, _⟩ | ⟨a', len, cap, elems, rest, n, hn, rfl, rfl, hb, hlc, hm, hlen', hel', hsp, _⟩
  · exact ⟨S, .slice none 0 0, _, [], [], rfl, Grew.refl h, .sliceNil, .nil, trivial, (fun i h => absurd h (Nat.not_lt_zero i)), (fun d hd => by cases hd), Nat.zero_le _⟩
  by_cases hcap : cap = 0
  · subst hcap
    obtain rfl : len = 0 := by omega
    exact ⟨S, .slice (some ⟨0, 0, none⟩) 0 0, _, [], [], rfl, Grew.refl h, .slice 0 0 0 0 a' 0 (Nat.le_refl _) (fun _ => rfl) (fun hx => by omega), .bare _ _, (fun hc => absurd rfl hc), (fun i h => absurd h (Nat.not_lt_zero i)), (fun d hd => by cases hd), Nat.zero_le _⟩
  rw [hc] at hel' hsp
  obtain ⟨hw1, hw2⟩ := Wt.slice ht hwt
  have each : ∀ i, i < cap → ∃ ds y, W.cells? 0 (a'.add (i * z)) z = some ds ∧ DataW.trod enc P W 0 (fun _ => true) true n e ds = some y ∧ (i < len → Wt P e y.1) := by
    intro i hi
    have : ∃ y, (W.cells? 0 (a'.add (i * z)) z).bind (DataW.trod enc P W 0 (fun _ => true) true n e) = some y ∧ (i < len → Wt P e y.1) := by
      by_cases hil : i < len
      · have := hel' i hil
        rw [List.getElem?_eq_getElem (by omega)] at this
        exact ⟨_, this, fun _ => hw2 _ (List.mem_map_of_mem (List.getElem_mem _))⟩
      · obtain ⟨hr1, hr2⟩ := hsp rfl
        have := hr2 (i - len) (by omega)
        rw [show len + (i - len) = i by omega, List.getElem?_eq_getElem (by omega)] at this
        exact ⟨_, this, fun h => absurd h hil⟩
    obtain ⟨y, hy, hyw⟩ := this
    rw [Option.bind_eq_some_iff] at hy
    obtain ⟨ds, h1, h2⟩ := hy
    exact ⟨ds, y, h1, h2, hyw⟩
  have hspot : a'.spot = none := by
    obtain ⟨ds, _, hd, _, _⟩ := each 0 (by omega)
    obtain ⟨hl, _, hg⟩ := World.cells?_some hd
    have h0 := hg 0 hz
    rw [List.getElem?_eq_getElem (by omega)] at h0
    have := cell_spot h0
    rw [Nat.zero_mul] at this
    simpa [Addr.add] using this
  obtain ⟨ab, ao, asp⟩ := a'
  simp only at hspot; subst hspot
  have hcell : ∀ i ds, i < cap → W.cells? 0 ((⟨ab, ao, none⟩ : Addr).add (i * z)) z = some ds → ∀ j, j < z → W.cell? ⟨ab, ao + (i * z + j), none⟩ = some (ds.getD j undef) := by
    intro i ds hi hd j hj
    obtain ⟨hl, _, hg⟩ := World.cells?_some hd
    have := hg j hj
    rw [add_none, add_none, List.getElem?_eq_getElem (by omega)] at this
    rw [← Nat.add_assoc, this]
    simp [List.getD, List.getElem?_eq_getElem (show j < ds.length by omega)]
  
  have all : ∀ k, k ≤ len → ∃ (S' : St) (lc : List Value) (D : List α), Grew W S S' ∧ D.length = k ∧ lc.length = k * z ∧ (∀ q, q < k * z → ∃ w, W.cell? ⟨ab, ao + q, none⟩ = some w ∧ VR S' (lc.getD q undef) w) ∧ (∀ d ∈ D, p d) ∧ ∀ i (h : i < D.length), Q (fun j => j < S'.s.next) S'.s ((lc.drop (i * z)).take z) D[i] := by
    intro k
    induction k with
    | zero => intro _; exact ⟨S, [], [], Grew.refl h, rfl, by simp, (fun q hq => by omega), (fun d hd => by cases hd), fun i h => absurd h (Nat.not_lt_zero i)⟩
    | succ k ih =>
      intro hk
      obtain ⟨S1, lc, D, hg, hD, hlc', hcells, hpD, hq⟩ := ih (by omega)
      obtain ⟨ds, y, hd, hy, hyw⟩ := each k (by omega)
      obtain ⟨S2, ds', d, hg2, hv2, hl2, hq2, hp2⟩ := hel n (by omega) S1 hg.begun ds y hy (hyw (by omega))
      have hs2 := hg2.stay
      refine ⟨S2, lc ++ ds', D ++ [d], hg.trans hg2, by simp [hD], by rw [List.length_append, hlc', hl2, Nat.succ_mul], (fun q hq' => ?_), (fun c hc => ?_), fun i hi => ?_⟩
      · rw [Nat.succ_mul] at hq'
        by_cases hqk : q < k * z
        · obtain ⟨w, h1, h2⟩ := hcells q hqk
          refine ⟨w, h1, ?_⟩
          rw [List.getD_eq_getElem?_getD, List.getElem?_append_left (by omega), ← List.getD_eq_getElem?_getD]
          exact h2.mono hg2.ext
        · refine ⟨_, by have := hcell k ds (by omega) hd (q - k * z) (by omega); rw [show k * z + (q - k * z) = q by omega] at this; exact this, ?_⟩
          rw [List.getD_eq_getElem?_getD, List.getElem?_append_right (by omega), hlc', ← List.getD_eq_getElem?_getD]
          exact hv2.2 _ (by omega)
      · rcases List.mem_append.1 hc with h | h
        · exact hpD c h
        · rw [List.mem_singleton.1 h]; exact hp2
      · have hi' : i < k + 1 := by simpa [hD] using hi
        by_cases hik : i < k
        · rw [take_chunk _ _ _ (by rw [hlc']; exact Nat.mul_le_mul_right z hik), List.getElem_append_left (by omega)]
          exact hM (hQ (hq i (by omega)) hs2) (fun j hj => Nat.lt_of_lt_of_le hj hs2.next)
        · obtain rfl : i = k := by omega
          have e1 : ((lc ++ ds').drop (i * z)).take z = ds' := by
            rw [← hlc', List.drop_left, List.take_of_length_le (by omega)]
          rw [e1, List.getElem_append_right (by omega)]
          simp only [hD, Nat.sub_self, List.getElem_cons_zero]
          exact hq2
  obtain ⟨S1, lc, D, hg, hD, hlcl, hcells, hpD, hq⟩ := all len (Nat.le_refl _)
  have hblk : ∃ arr E fr, W.heap[ab]? = some (.cells arr E fr) ∧ ao + cap * z ≤ arr.size := by
    obtain ⟨ds, _, hd, _, _⟩ := each (cap - 1) (by omega)
    obtain ⟨arr, E, fr, h1, h2⟩ := cell_size (hcell (cap - 1) ds (by omega) hd (z - 1) (by omega))
    refine ⟨arr, E, fr, h1, ?_⟩
    have : cap * z = (cap - 1) * z + z := by
      conv => lhs; rw [show cap = (cap - 1) + 1 by omega, Nat.succ_mul]
    omega
  obtain ⟨arr, E, fr, hh, hsz⟩ := hblk
  have hlt : ab < W.heap.size := by
    rcases Nat.lt_or_ge ab W.heap.size with q | q
    · exact q
    · rw [Array.getElem?_eq_none q] at hh; cases hh
  obtain ⟨h1, h2, h3, h4⟩ := hg.begun.push ⟨lc, len * z + 1, false, z⟩ (ab, ao) rfl (by simp) (fun c hc => by simp only [Live, hlcl] at hc ⊢; omega) (fun c _ => hlt) (fun c _ q hq => by
    simp only [hlcl] at hq
    exact hcells q hq)
  have hnb : (S1.pushOld ⟨lc, len * z + 1, false, z⟩ (ab, ao)).s.blk? S1.s.next = some ⟨lc, len * z + 1, false, z⟩ := blk_new _ _
  have hS2w := h1.w
  refine ⟨_, .slice (some ⟨S1.s.next, 0, none⟩) len (len * z + 1), _, lc, D, rfl, hg.trans ⟨h1, h2, h3⟩, ?_, ?_, (fun _ => by show S1.s.next < _; rw [h4]; omega), (fun i hi => ?_), hpD, ?_⟩
  · refine .slice _ _ _ _ _ cap hlc (fun q => by omega) (fun _ => ⟨⟨_, hnb, by simp only [hlcl]; omega, fun _ => ?_⟩, fun b hb hl => ?_⟩)
    · simp only [St.pushOld, if_true]; simp
    · rw [hnb] at hb; obtain rfl := Option.some.inj hb
      exact ⟨arr, E, fr, by rw [hS2w]; exact hh, hsz⟩
  · rw [hD]
    refine .of S1.s.next 0 len _ _ _ (by rw [h4]; omega) hnb rfl (by simp) (by simp only [hlcl]; omega) hlcl (by omega) ?_
    rw [List.drop_zero]; exact List.take_of_length_le (by show lc.length ≤ _; omega)
  · exact hM (hQ (hq i hi) h3) (fun j hj => by have : j < S1.s.next := hj; show j < _; rw [h4]; omega)
  · rw [hD]
    rw [List.length_map, List.length_map, hlen'] at hw1
    have := Nat.mul_le_mul_left (len + rest.length) hb1
    omega
end Go.Cl
set_option linter.unusedSimpArgs false
set_option linter.unusedVariables false
set_option maxRecDepth 100000
namespace Go.Cl
open Go.RowKit Go.ChangeShapes Go.WideShapes
theorem bytes_rowsA {B : List UInt8} {l : List Value} (hl : l.length = B.length) (hq : ∀ i (h : i < B.length), (l.drop (i * 1)).take 1 = [.int .u8 ((B[i]).toNat : Int)]) : l = ofBytes B := by
  refine List.ext_getElem? fun i => ?_
  by_cases hi : i < B.length
  · have h0 : ((l.drop (i * 1)).take 1)[0]? = some (.int .u8 ((B[i]).toNat : Int)) := by rw [hq i hi]; rfl
    rw [List.getElem?_take_of_lt (by omega), List.getElem?_drop, Nat.add_zero, Nat.mul_one] at h0
    rw [h0]; simp [ofBytes, List.getElem?_eq_getElem hi]
  · rw [List.getElem?_eq_none (by omega), List.getElem?_eq_none (by rw [ofBytes_length]; omega)]
structure PiecesA (s : ASt) (vs : List Value) (L : List (List UInt8)) : Prop where
  len : vs.length = L.length
  sees : ∀ k (h : k < L.length), Sees s 1 (vs.getD k undef) (L[k]).length (ofBytes L[k])
theorem PiecesA.keeps {s s' : ASt} {vs : List Value} {L : List (List UInt8)} (h : PiecesA s vs L) (k : Stay s.next s s') : PiecesA s' vs L := ⟨h.len, fun j hj => (h.sees j hj).keeps k⟩
end Go.Cl
namespace Go.Proofs.Ytnclklboogdoiaa
open Go.Cl Go.RowKit Go.ChangeShapes Go.WideShapes
theorem coU8 : Try.prog.cellsOf 5 = 1 := by kernel_rfl
theorem coB : Try.prog.cellsOf 22 = 1 := by kernel_rfl
theorem coB1 : 1 ≤ Try.prog.bytesOf 5 := by rw [show Try.prog.bytesOf 5 = 1 from by kernel_rfl]; decide
theorem coS1 : 1 ≤ Try.prog.bytesOf 22 := by rw [show Try.prog.bytesOf 22 = 24 from by kernel_rfl]; decide
theorem reach_eq : reachBytes = 140737488351232 := by decide
variable {H : Type} {enc : TypeId × Value → H} {W : World}
theorem bytes_openA (fuel : Nat) {S : St} (h : Begun W S) {cs : List Value} {x : DataW H × List MemPlace} (hf : DataW.trod enc Try.prog W 0 (fun _ => true) true fuel 22 cs = some x) (hw : Wt Try.prog 22 x.1) :
    ∃ (S' : St) (v' v : Value) (b : List UInt8), cs = [v] ∧ Grew W S S' ∧ VR S' v' v ∧ Sees S'.s 1 v' b.length (ofBytes b) ∧ b.length ≤ 140737488351232 := by
  obtain ⟨S', v', v, lb, B, e, hg, hv, hs, _, hq, _, hk⟩ := rows_open h (Q := fun _ _ cs (d : UInt8) => cs = [.int .u8 (d.toNat : Int)]) (p := fun _ => True) (fun h _ => h) (fun h _ => h) Try.underlying22 coU8 (by decide) coB1 (fun m _ S hS cs x h _ => by
      obtain ⟨c, e, _, hw⟩ := DataW.trod_int Try.underlying5 h
      obtain ⟨bs, hb1, hb2⟩ := bytes_of (zs := [c]) (by simpa using hw)
      match bs, hb1 with
      | [u], _ =>
        have hb2 : [Value.int .u8 c] = [Value.int .u8 (u.toNat : Int)] := hb2
        exact ⟨S, [.int .u8 c], u, Grew.refl hS, by rw [e]; exact .cons (.int _ _) .nil, rfl, hb2, trivial⟩) hf hw
  rw [reach_eq] at hk
  have hl := hs.length
  rw [Nat.mul_one] at hl
  have hB : lb = ofBytes B := bytes_rowsA hl hq
  subst hB
  exact ⟨S', v', v, B, e, hg, hv, hs, hk⟩
theorem arg_bytes {S : St} (h : Begun W S) {r : Reach} {b0 : Nat} {v : Value} {d : DataW H} {ps : List MemPlace} (hd : DataW.Trod enc Try.prog W 0 (fun _ => true) true 22 v d ps) (hw : Wt Try.prog 22 d) (hval : Value.okWide Try.prog W r b0 22 v) :
    ∃ (S' : St) (v' : Value) (b : List UInt8), Grew W S S' ∧ VR S' v' v ∧ Sees S'.s 1 v' b.length (ofBytes b) ∧ b.length ≤ 140737488351232 := by
  obtain ⟨a, len, cap, rfl⟩ := okWide_slice Try.underlying22 hval
  obtain ⟨fuel, hf⟩ := hd
  obtain ⟨S', v', v, B, e, hg, hv, hs, hk⟩ := bytes_openA fuel h hf hw
  have e' : [Value.slice a len cap] = [v] := e
  injection e' with e'
  subst e'
  exact ⟨S', v', B, hg, hv, hs, hk⟩
theorem arg_bytess {S : St} (h : Begun W S) {r : Reach} {b0 : Nat} {v : Value} {d : DataW H} {ps : List MemPlace} (hd : DataW.Trod enc Try.prog W 0 (fun _ => true) true 44 v d ps) (hw : Wt Try.prog 44 d) (hval : Value.okWide Try.prog W r b0 44 v) :
    ∃ (S' : St) (v' : Value) (vs : List Value) (L : List (List UInt8)), Grew W S S' ∧ VR S' v' v ∧ Sees S'.s 1 v' L.length vs ∧ PiecesA S'.s vs L ∧ L.length ≤ 140737488351232 := by
  obtain ⟨a, len, cap, rfl⟩ := okWide_slice Try.underlying44 hval
  obtain ⟨fuel, hf⟩ := hd
  obtain ⟨S', v', v, lb, L, e, hg, hv, hs, _, hq, _, hk⟩ := rows_open h (Q := fun _ s cs (b : List UInt8) => ∃ w, cs = [w] ∧ Sees s 1 w b.length (ofBytes b)) (p := fun _ => True) (fun ⟨w, h1, h2⟩ k => ⟨w, h1, h2.keeps k⟩) (fun h _ => h) Try.underlying44 coB (by decide) coS1 (fun m _ S hS cs x h hw => by
      obtain ⟨S', v', v, B, e, hg, hv, hs, hk⟩ := bytes_openA m hS h hw
      exact ⟨S', [v'], B, hg, by rw [e]; exact .cons hv .nil, rfl, ⟨v', rfl, hs⟩, trivial⟩) hf hw
  have e' : [Value.slice a len cap] = [v] := e
  injection e' with e'
  subst e'
  rw [reach_eq] at hk
  have hl := hs.length
  rw [Nat.mul_one] at hl
  refine ⟨S', v', lb, L, hg, hv, hs, ⟨hl, fun i hi => ?_⟩, hk⟩
  obtain ⟨w, h1, h2⟩ := hq i hi
  have h0 : ((lb.drop (i * 1)).take 1)[0]? = some w := by rw [h1]; rfl
  rw [List.getElem?_take_of_lt (by omega), List.getElem?_drop, Nat.add_zero, Nat.mul_one] at h0
  rw [List.getD_eq_getElem?_getD, h0]
  exact h2
end Go.Proofs.Ytnclklboogdoiaa
