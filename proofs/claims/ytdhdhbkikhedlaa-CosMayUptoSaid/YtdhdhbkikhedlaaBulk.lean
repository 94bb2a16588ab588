/-
  Objects: an argument's bulk: how many numbers it names at the most.
-/
import Derived.Test.YtdhdhbkikhedlaaRows
import Derived.Test.YtdhdhbkikhedlaaObjB
import Derived.Test.YtdhdhbkikhedlaaDepP
set_option linter.unusedSimpArgs false
set_option linter.unusedVariables false
set_option maxRecDepth 100000
namespace Go.Cl
open Go.RowKit Go.ChangeShapes Go.WideShapes
variable {H : Type} {enc : TypeId × Value → H} {P : Program}
def Each {α : Type} (p : DataW H → α → Prop) (x : DataW H) (D : List α) : Prop := D = [] ∨ ∃ E R, x = .slice E R ∧ E.length = D.length ∧ ∀ i (h : i < D.length), ∃ y, E[i]? = some y ∧ p y D[i]
theorem Each.nil {α : Type} {p : DataW H → α → Prop} {x : DataW H} : Each p x [] := .inl rfl
theorem Each.mem {α : Type} {p : DataW H → α → Prop} {x : DataW H} {D : List α} (h : Each p x D) : ∀ d ∈ D, (∃ y, p y d) := by
  intro d hd
  rcases h with rfl | ⟨E, R, _, _, h⟩
  · cases hd
  · obtain ⟨i, hi, rfl⟩ := List.getElem_of_mem hd
    obtain ⟨y, _, hy⟩ := h i hi
    exact ⟨y, hy⟩
theorem Each.imp {α : Type} {p q : DataW H → α → Prop} {x : DataW H} {D : List α} (h : Each p x D) (k : ∀ {y d}, p y d → q y d) : Each q x D := by
  rcases h with h | ⟨E, R, h1, h2, h⟩
  · exact .inl h
  · refine .inr ⟨E, R, h1, h2, fun i hi => ?_⟩
    obtain ⟨y, e, hy⟩ := h i hi
    exact ⟨y, e, k hy⟩
theorem rows_openD {W : World} {S : St} (h : Begun W S) {α : Type} {Q : (Nat → Prop) → ASt → List Value → α → Prop} {p : DataW H → α → Prop} (hQ : ∀ {F s s' cs d}, Q F s cs d → Stay s.next s s' → Q F s' cs d) (hM : ∀ {F G : Nat → Prop} {s cs d}, Q F s cs d → (∀ j, F j → G j) → Q G s cs d) {t e : TypeId} {z fuel : Nat} (ht : P.underlying t = some (.slice e)) (hc : P.cellsOf e = z) (hz : 0 < z) {b8 : Nat} (hb1 : b8 ≤ P.bytesOf e)
    (hel : ∀ n, n < fuel → ∀ S : St, Begun W S → ∀ cs x, DataW.trod enc P W 0 (fun _ => true) true n e cs = some x → Wt P e x.1 → ∃ S' cs' d, Grew W S S' ∧ VRL S' cs' cs ∧ cs'.length = z ∧ Q (fun j => j < S'.s.next) S'.s cs' d ∧ p x.1 d)
    {cs : List Value} {x : DataW H × List MemPlace} (hf : DataW.trod enc P W 0 (fun _ => true) true fuel t cs = some x) (hwt : Wt P t x.1) :
    ∃ (S' : St) (v' v : Value) (lc : List Value) (D : List α), cs = [v] ∧ Grew W S S' ∧ VR S' v' v ∧ Sees S'.s z v' D.length lc ∧ Foot (fun j => j < S'.s.next) v' ∧ (∀ i (h : i < D.length), Q (fun j => j < S'.s.next) S'.s ((lc.drop (i * z)).take z) D[i]) ∧ Each p x.1 D ∧ D.length * b8 ≤ reachBytes := by
  rcases DataW.trod_slice ht hf with ⟨rfl, _⟩ | ⟨a', len, cap, elems, rest, n, hn, rfl, rfl, hb, hlc, hm, hlen', hel', hsp, _⟩
  · exact ⟨S, .slice none 0 0, _, [], [], rfl, Grew.refl h, .sliceNil, .nil, trivial, (fun i h => absurd h (Nat.not_lt_zero i)), Each.nil, by simp⟩
  by_cases hcap : cap = 0
  · subst hcap
    obtain rfl : len = 0 := by omega
    exact ⟨S, .slice (some ⟨0, 0, none⟩) 0 0, _, [], [], rfl, Grew.refl h, .slice 0 0 0 0 a' 0 (Nat.le_refl _) (fun _ => rfl) (fun hx => by omega), .bare _ _, (fun hc => absurd rfl hc), (fun i h => absurd h (Nat.not_lt_zero i)), Each.nil, by simp⟩
  rw [hc] at hel' hsp
  obtain ⟨hw1, hw2⟩ := Wt.slice ht hwt
  have each : ∀ i, i < cap → ∃ ds y, W.cells? 0 (a'.add (i * z)) z = some ds ∧ DataW.trod enc P W 0 (fun _ => true) true n e ds = some y ∧ (i < len → Wt P e y.1 ∧ (elems.map (·.1))[i]? = some y.1) := by
    intro i hi
    have : ∃ y, (W.cells? 0 (a'.add (i * z)) z).bind (DataW.trod enc P W 0 (fun _ => true) true n e) = some y ∧ (i < len → Wt P e y.1 ∧ (elems.map (·.1))[i]? = some y.1) := by
      by_cases hil : i < len
      · have := hel' i hil
        rw [List.getElem?_eq_getElem (by omega)] at this
        exact ⟨_, this, fun _ => ⟨hw2 _ (List.mem_map_of_mem (List.getElem_mem _)), by rw [List.getElem?_map, List.getElem?_eq_getElem (by omega)]; rfl⟩⟩
      · obtain ⟨hr1, hr2⟩ := hsp rfl
        have := hr2 (i - len) (by omega)
        rw [show len + (i - len) = i by omega, List.getElem?_eq_getElem (by omega)] at this
        exact ⟨_, this, fun h => absurd h hil⟩
    obtain ⟨y, hy, hyw⟩ := this
    rw [Option.bind_eq_some_iff] at hy
    obtain ⟨ds, h1, h2⟩ := hy
    exact ⟨ds, y, h1, h2, hyw⟩
  have hspot : a'.spot = none := by
    obtain ⟨ds, _, hd, _, _⟩ := each 0 (by omega)
    obtain ⟨hl, _, hg⟩ := World.cells?_some hd
    have h0 := hg 0 hz
    rw [List.getElem?_eq_getElem (by omega)] at h0
    have := cell_spot h0
    rw [Nat.zero_mul] at this
    simpa [Addr.add] using this
  obtain ⟨ab, ao, asp⟩ := a'
  simp only at hspot; subst hspot
  have hcell : ∀ i ds, i < cap → W.cells? 0 ((⟨ab, ao, none⟩ : Addr).add (i * z)) z = some ds → ∀ j, j < z → W.cell? ⟨ab, ao + (i * z + j), none⟩ = some (ds.getD j undef) := by
    intro i ds hi hd j hj
    obtain ⟨hl, _, hg⟩ := World.cells?_some hd
    have := hg j hj
    rw [add_none, add_none, List.getElem?_eq_getElem (by omega)] at this
    rw [← Nat.add_assoc, this]
    simp [List.getD, List.getElem?_eq_getElem (show j < ds.length by omega)]
  
  have all : ∀ k, k ≤ len → ∃ (S' : St) (lc : List Value) (D : List α), Grew W S S' ∧ D.length = k ∧ lc.length = k * z ∧ (∀ q, q < k * z → ∃ w, W.cell? ⟨ab, ao + q, none⟩ = some w ∧ VR S' (lc.getD q undef) w) ∧ (∀ i (h : i < D.length), ∃ y, (elems.map (·.1))[i]? = some y ∧ p y D[i]) ∧ ∀ i (h : i < D.length), Q (fun j => j < S'.s.next) S'.s ((lc.drop (i * z)).take z) D[i] := by
    intro k
    induction k with
    | zero => intro _; exact ⟨S, [], [], Grew.refl h, rfl, by simp, (fun q hq => by omega), (fun i h => absurd h (Nat.not_lt_zero i)), fun i h => absurd h (Nat.not_lt_zero i)⟩
    | succ k ih =>
      intro hk
      obtain ⟨S1, lc, D, hg, hD, hlc', hcells, hpD, hq⟩ := ih (by omega)
      obtain ⟨ds, y, hd, hy, hyw⟩ := each k (by omega)
      obtain ⟨S2, ds', d, hg2, hv2, hl2, hq2, hp2⟩ := hel n (by omega) S1 hg.begun ds y hy (hyw (by omega)).1
      have hs2 := hg2.stay
      refine ⟨S2, lc ++ ds', D ++ [d], hg.trans hg2, by simp [hD], by rw [List.length_append, hlc', hl2, Nat.succ_mul], (fun q hq' => ?_), (fun i hi => ?_), fun i hi => ?_⟩
      · rw [Nat.succ_mul] at hq'
        by_cases hqk : q < k * z
        · obtain ⟨w, h1, h2⟩ := hcells q hqk
          refine ⟨w, h1, ?_⟩
          rw [List.getD_eq_getElem?_getD, List.getElem?_append_left (by omega), ← List.getD_eq_getElem?_getD]
          exact h2.mono hg2.ext
        · refine ⟨_, by have := hcell k ds (by omega) hd (q - k * z) (by omega); rw [show k * z + (q - k * z) = q by omega] at this; exact this, ?_⟩
          rw [List.getD_eq_getElem?_getD, List.getElem?_append_right (by omega), hlc', ← List.getD_eq_getElem?_getD]
          exact hv2.2 _ (by omega)
      · have hi' : i < k + 1 := by simpa [hD] using hi
        by_cases hik : i < k
        · rw [List.getElem_append_left (by omega)]; exact hpD i (by omega)
        · obtain rfl : i = k := by omega
          refine ⟨_, (hyw (by omega)).2, ?_⟩
          rw [List.getElem_append_right (by omega)]
          simp only [hD, Nat.sub_self, List.getElem_cons_zero]
          exact hp2
      · have hi' : i < k + 1 := by simpa [hD] using hi
        by_cases hik : i < k
        · rw [take_chunk _ _ _ (by rw [hlc']; exact Nat.mul_le_mul_right z hik), List.getElem_append_left (by omega)]
          exact hM (hQ (hq i (by omega)) hs2) (fun j hj => Nat.lt_of_lt_of_le hj hs2.next)
        · obtain rfl : i = k := by omega
          have e1 : ((lc ++ ds').drop (i * z)).take z = ds' := by
            rw [← hlc', List.drop_left, List.take_of_length_le (by omega)]
          rw [e1, List.getElem_append_right (by omega)]
          simp only [hD, Nat.sub_self, List.getElem_cons_zero]
          exact hq2
  obtain ⟨S1, lc, D, hg, hD, hlcl, hcells, hpD, hq⟩ := all len (Nat.le_refl _)
  have hblk : ∃ arr E fr, W.heap[ab]? = some (.cells arr E fr) ∧ ao + cap * z ≤ arr.size := by
    obtain ⟨ds, _, hd, _, _⟩ := each (cap - 1) (by omega)
    obtain ⟨arr, E, fr, h1, h2⟩ := cell_size (hcell (cap - 1) ds (by omega) hd (z - 1) (by omega))
    refine ⟨arr, E, fr, h1, ?_⟩
    have : cap * z = (cap - 1) * z + z := by
      conv => lhs; rw [show cap = (cap - 1) + 1 by omega, Nat.succ_mul]
    omega
  obtain ⟨arr, E, fr, hh, hsz⟩ := hblk
  have hlt : ab < W.heap.size := by
    rcases Nat.lt_or_ge ab W.heap.size with q | q
    · exact q
    · rw [Array.getElem?_eq_none q] at hh; cases hh
  obtain ⟨h1, h2, h3, h4⟩ := hg.begun.push ⟨lc, len * z + 1, false, z⟩ (ab, ao) rfl (by simp) (fun c hc => by simp only [Live, hlcl] at hc ⊢; omega) (fun c _ => hlt) (fun c _ q hq => by
    simp only [hlcl] at hq
    exact hcells q hq)
  have hnb : (S1.pushOld ⟨lc, len * z + 1, false, z⟩ (ab, ao)).s.blk? S1.s.next = some ⟨lc, len * z + 1, false, z⟩ := blk_new _ _
  have hS2w := h1.w
  refine ⟨_, .slice (some ⟨S1.s.next, 0, none⟩) len (len * z + 1), _, lc, D, rfl, hg.trans ⟨h1, h2, h3⟩, ?_, ?_, (fun _ => by show S1.s.next < _; rw [h4]; omega), (fun i hi => ?_), .inr ⟨_, _, rfl, by rw [List.length_map, hlen', hD], hpD⟩, ?_⟩
  · refine .slice _ _ _ _ _ cap hlc (fun q => by omega) (fun _ => ⟨⟨_, hnb, by simp only [hlcl]; omega, fun _ => ?_⟩, fun b hb hl => ?_⟩)
    · simp only [St.pushOld, if_true]; simp
    · rw [hnb] at hb; obtain rfl := Option.some.inj hb
      exact ⟨arr, E, fr, by rw [hS2w]; exact hh, hsz⟩
  · rw [hD]
    refine .of S1.s.next 0 len _ _ _ (by rw [h4]; omega) hnb rfl (by simp) (by simp only [hlcl]; omega) hlcl (by omega) ?_
    rw [List.drop_zero]; exact List.take_of_length_le (by show lc.length ≤ _; omega)
  · exact hM (hQ (hq i hi) h3) (fun j hj => by have : j < S1.s.next := hj; show j < _; rw [h4]; omega)
  · rw [hD]
    rw [List.length_map, List.length_map, hlen'] at hw1
    exact Nat.le_trans (Nat.mul_le_mul (Nat.le_add_right _ _) hb1) hw1
structure BulkOk (bk : DataW H → Nat) : Prop where
  pos : ∀ d, 1 ≤ bk d
  slice : ∀ E R, (E.map bk).sum + 1 ≤ bk (.slice E R)
  agg : ∀ E, (E.map bk).sum + 1 ≤ bk (.agg E)
def Bulked (d : DataW H) (o : O) : Prop := ∀ bk : DataW H → Nat, BulkOk bk → (refsO o).length ≤ bk d ∧ depO o ≤ bk d
theorem sum_mem {l : List Nat} {x : Nat} (h : x ∈ l) : x ≤ l.sum := by
  induction l with
  | nil => cases h
  | cons a l ih =>
    rw [List.sum_cons]
    rcases List.mem_cons.1 h with h | h
    · omega
    · have := ih h; omega
theorem bulked_agg {xs : List (DataW H)} {d : DataW H} (hd : d ∈ xs) {o : O} (h : Bulked d o) : Bulked (.agg xs) o := by
  intro bk hb
  have h1 := h bk hb
  have h2 := hb.agg xs
  have h3 : bk d ≤ (xs.map bk).sum := sum_mem (List.mem_map_of_mem hd)
  omega
theorem bulked_rows {α : Type} {f : α → O} : ∀ {E : List (DataW H)} {D : List α}, E.length = D.length → (∀ i (h : i < D.length), ∃ y, E[i]? = some y ∧ Bulked y (f D[i])) → ∀ bk : DataW H → Nat, BulkOk bk → ((D.map f).flatMap refsO).length ≤ (E.map bk).sum ∧ ∀ x ∈ D.map f, depO x ≤ (E.map bk).sum
  | [], [], _, _, _, _ => by simp
  | e :: E, d :: D, hl, h, bk, hb => by
    have h0 : Bulked e (f d) := by
      obtain ⟨y, h1, h2⟩ := h 0 (by simp)
      have h1 : some e = some y := h1
      injection h1 with h1
      rw [h1]; exact h2
    have h3 := h0 bk hb
    have h4 := bulked_rows (E := E) (D := D) (by simpa using hl) (fun i hi => h (i + 1) (by simpa using hi)) bk hb
    rw [List.map_cons, List.flatMap_cons, List.length_append, List.map_cons, List.sum_cons]
    refine ⟨by omega, fun x hx => ?_⟩
    rcases List.mem_cons.1 hx with rfl | hx
    · omega
    · have := h4.2 x hx; omega
theorem bulked_each {α : Type} {f : α → O} {x : DataW H} {D : List α} (h : Each (fun d a => Bulked d (f a)) x D) (bk : DataW H → Nat) (hb : BulkOk bk) : ((D.map f).flatMap refsO).length ≤ bk x ∧ ∀ y ∈ D.map f, depO y ≤ bk x := by
  rcases h with rfl | ⟨E, R, rfl, hl, h⟩
  · simp
  · have h1 := bulked_rows hl h bk hb
    have := hb.slice E R
    exact ⟨by omega, fun y hy => by have := h1.2 y hy; omega⟩
theorem bulked_mk {xs : List (DataW H)} {y z : DataW H} (hy : y ∈ xs) (hz : z ∈ xs) {k n : Int} {b : List UInt8} {l : List O} {d : List (List UInt8 × O)} (hl : Each Bulked y l) (hd : Each (fun d e => Bulked d e.2) z d) : Bulked (.agg xs) (.mk k n b l d) := by
  intro bk hb
  have h2 := hb.agg xs
  have h3 : bk y ≤ (xs.map bk).sum := sum_mem (List.mem_map_of_mem hy)
  have h4 : bk z ≤ (xs.map bk).sum := sum_mem (List.mem_map_of_mem hz)
  have h5 := bulked_each (f := fun o => o) hl bk hb
  have h6 := bulked_each (f := fun e : List UInt8 × O => e.2) hd bk hb
  have hp : ∀ x ∈ partsO (.mk k n b l d), depO x ≤ (xs.map bk).sum := by
    intro x hx
    rw [partsO_mk] at hx
    split at hx
    · have := h5.2 x (by rw [List.map_id']; exact hx); omega
    · split at hx
      · have := h6.2 x hx; omega
      · cases hx
  constructor
  · rw [refsO_eq]
    split
    · simp; omega
    · rw [partsO_mk]
      split
      · have := h5.1; rw [List.map_id'] at this; omega
      · split
        · have := h6.1; omega
        · simp
  · rw [depO_eq]
    split
    · have : ((partsO (.mk k n b l d)).map depO).foldl max 0 ≤ (xs.map bk).sum := foldl_max_le (Nat.zero_le _) (fun x hx => by
        obtain ⟨y, hy, rfl⟩ := List.mem_map.1 hx
        exact hp y hy)
      omega
    · omega
end Go.Cl
namespace Go.Proofs.Ytdhdhbkikhedlaa
open Go.Cl Go.RowKit Go.ChangeShapes Go.WideShapes
variable {H : Type} {enc : TypeId × Value → H} {W : World}
theorem ent_ofW {n : Nat} (ih : ∀ m, m < n → ∀ S : St, Begun W S → ∀ cs x, DataW.trod enc Try.prog W 0 (fun _ => true) true m 26 cs = some x → Wt Try.prog 26 x.1 → ∃ S' cs' o, Grew W S S' ∧ VRL S' cs' cs ∧ cs'.length = 5 ∧ OIs (fun j => j < S'.s.next) S'.s cs' o ∧ Fit o ∧ Bulked x.1 o)
    {S : St} (hS : Begun W S) {cs : List Value} {x : DataW H × List MemPlace} (h : DataW.trod enc Try.prog W 0 (fun _ => true) true n 32 cs = some x) (hwt : Wt Try.prog 32 x.1) :
    ∃ S' cs' e, Grew W S S' ∧ VRL S' cs' cs ∧ cs'.length = 6 ∧ EntIs (fun j => j < S'.s.next) S'.s cs' e ∧ FitE e ∧ Bulked x.1 e.2 := by
  obtain ⟨xs, m, hm, rfl, hl, hxl, hx⟩ := DataW.trod_struct Try.underlying32 h
  rw [coE] at hl
  have h0 := hx 0 _ rfl
  have h1 := hx 1 _ rfl
  change DataW.trod enc Try.prog W 0 (fun _ => true) true m 9 ((cs.drop 0).take (Try.prog.cellsOf 9)) = xs[0]? at h0
  change DataW.trod enc Try.prog W 0 (fun _ => true) true m 26 ((cs.drop 1).take (Try.prog.cellsOf 26)) = xs[1]? at h1
  rw [coS] at h0
  rw [coO] at h1
  have hs : xs.length = 2 := hxl
  rw [List.getElem?_eq_getElem (by omega)] at h0 h1
  have w0 : Wt Try.prog 9 (xs[0]).1 := hwt.struct Try.underlying32 (i := 0) rfl (by rw [List.getElem?_map, List.getElem?_eq_getElem (by omega)]; rfl)
  have w1 : Wt Try.prog 26 (xs[1]).1 := hwt.struct Try.underlying32 (i := 1) rfl (by rw [List.getElem?_map, List.getElem?_eq_getElem (by omega)]; rfl)
  obtain ⟨c, e0, ec, hcl⟩ := DataW.trod_string Try.underlying9 h0
  rw [ec] at w0
  have w0 := w0 c.data.toList.length (by simp [DataW.weights])
  rw [reach_eq] at w0
  obtain ⟨S', cs', o, hg, hv, hol, ho, hfo, hbo⟩ := ih m (by omega) S hS _ _ h1 w1
  obtain ⟨v0, v1, v2, v3, v4, v5, rfl⟩ : ∃ v0 v1 v2 v3 v4 v5, cs = [v0, v1, v2, v3, v4, v5] := by
    clear h h0 h1 e0
    match cs, hl with
    | [a, b, c, d, e, f], _ => exact ⟨_, _, _, _, _, _, rfl⟩
  · simp at e0
    subst e0
    have hm : maxLen = 9223372036854775807 := by decide
    refine ⟨S', .string c :: cs', (c.data.toList, o), hg, .cons (.string _) hv, by simp [hol], ⟨cs', ?_, ho, ?_⟩, ⟨w0, hfo⟩, bulked_agg (List.mem_map_of_mem (List.getElem_mem _)) hbo⟩
    · cases c; simp
    · show c.data.toList.length ≤ _
      have : c.data.toList.length = c.size := by rw [Array.length_toList]; rfl
      omega
theorem obj_openW : ∀ (fuel : Nat) (S : St), Begun W S → ∀ cs x, DataW.trod enc Try.prog W 0 (fun _ => true) true fuel 26 cs = some x → Wt Try.prog 26 x.1 → ∃ S' cs' o, Grew W S S' ∧ VRL S' cs' cs ∧ cs'.length = 5 ∧ OIs (fun j => j < S'.s.next) S'.s cs' o ∧ Fit o ∧ Bulked x.1 o := by
  intro fuel
  induction fuel using Nat.strongRecOn with
  | _ fuel ih =>
    intro S hS cs x h hwt
    obtain ⟨xs, n, hn, rfl, hl, hxl, hx⟩ := DataW.trod_struct Try.underlying26 h
    rw [coO] at hl
    have h0 := hx 0 _ rfl
    have h1 := hx 1 _ rfl
    have h2 := hx 2 _ rfl
    have h3 := hx 3 _ rfl
    have h4 := hx 4 _ rfl
    change DataW.trod enc Try.prog W 0 (fun _ => true) true n 3 ((cs.drop 0).take (Try.prog.cellsOf 3)) = xs[0]? at h0
    change DataW.trod enc Try.prog W 0 (fun _ => true) true n 2 ((cs.drop 1).take (Try.prog.cellsOf 2)) = xs[1]? at h1
    change DataW.trod enc Try.prog W 0 (fun _ => true) true n 22 ((cs.drop 2).take (Try.prog.cellsOf 22)) = xs[2]? at h2
    change DataW.trod enc Try.prog W 0 (fun _ => true) true n 23 ((cs.drop 3).take (Try.prog.cellsOf 23)) = xs[3]? at h3
    change DataW.trod enc Try.prog W 0 (fun _ => true) true n 24 ((cs.drop 4).take (Try.prog.cellsOf 24)) = xs[4]? at h4
    rw [coI] at h0
    rw [coI64] at h1
    rw [coB] at h2
    rw [coL] at h3
    rw [coD] at h4
    have hs : xs.length = 5 := hxl
    rw [List.getElem?_eq_getElem (by omega)] at h0 h1 h2 h3 h4
    have w2 : Wt Try.prog 22 (xs[2]).1 := hwt.struct Try.underlying26 (i := 2) rfl (by rw [List.getElem?_map, List.getElem?_eq_getElem (by omega)]; rfl)
    have w3 : Wt Try.prog 23 (xs[3]).1 := hwt.struct Try.underlying26 (i := 3) rfl (by rw [List.getElem?_map, List.getElem?_eq_getElem (by omega)]; rfl)
    have w4 : Wt Try.prog 24 (xs[4]).1 := hwt.struct Try.underlying26 (i := 4) rfl (by rw [List.getElem?_map, List.getElem?_eq_getElem (by omega)]; rfl)
    obtain ⟨kind, e0, _⟩ := DataW.trod_int Try.underlying3 h0
    obtain ⟨num, e1, _⟩ := DataW.trod_int Try.underlying2 h1
    obtain ⟨S1, bv, bw, lb, B, e2, g1, r1, s1, f1, q1, _, k1⟩ := rows_openD hS (Q := fun _ _ cs (d : UInt8) => cs = [.int .u8 (d.toNat : Int)]) (p := fun _ _ => True) (fun h _ => h) (fun h _ => h) Try.underlying22 coU8 (by decide) coB1 (fun m _ S hS cs x h _ => by
      obtain ⟨c, e, _, hw⟩ := DataW.trod_int Try.underlying5 h
      obtain ⟨bs, hb1, hb2⟩ := bytes_of (zs := [c]) (by simpa using hw)
      match bs, hb1 with
      | [u], _ =>
        have hb2 : [Value.int .u8 c] = [Value.int .u8 (u.toNat : Int)] := hb2
        exact ⟨S, [.int .u8 c], u, Grew.refl hS, by rw [e]; exact .cons (.int _ _) .nil, rfl, hb2, trivial⟩) h2 w2
    obtain ⟨S2, lv, lw, lc, L, e3, g2, r2, s2, f2, q2, p2, k2⟩ := rows_openD g1.begun (Q := fun F s cs o => OIs F s cs o) (p := fun d o => Fit o ∧ Bulked d o) (fun h k => h.keeps k) (fun h k => h.mono k) Try.underlying23 coO (by decide) coO1 (fun m hm S hS cs x h hw => ih m (by omega) S hS cs x h hw) h3 w3
    obtain ⟨S3, dv, dw, dc, D, e4, g3, r3, s3, f3, q3, p3, k3⟩ := rows_openD g2.begun (Q := fun F s cs e => EntIs F s cs e) (p := fun d e => FitE e ∧ Bulked d e.2) (fun h k => h.keeps k) (fun h k => h.mono k) Try.underlying24 coE (by decide) coE1 (fun m hm S hS cs x h hw => ent_ofW (fun m' hm' => ih m' (by omega)) hS h hw) h4 w4
    rw [reach_eq] at k1 k2 k3
    rw [Nat.mul_one] at k1
    have hlb := s1.length
    rw [Nat.mul_one] at hlb
    have hB : lb = ofBytes B := bytes_rows hlb q1
    subst hB
    have m12 : ∀ j, j < S1.s.next → j < S3.s.next := fun j hj => Nat.lt_of_lt_of_le hj (Nat.le_trans g2.stay.next g3.stay.next)
    have m23 : ∀ j, j < S2.s.next → j < S3.s.next := fun j hj => Nat.lt_of_lt_of_le hj g3.stay.next
    obtain ⟨v0, v1, v2, v3, v4, rfl⟩ : ∃ v0 v1 v2 v3 v4, cs = [v0, v1, v2, v3, v4] := by
      clear h h0 h1 h2 h3 h4 e0 e1 e2 e3 e4
      match cs, hl with
      | [a, b, c, d, e], _ => exact ⟨_, _, _, _, _, rfl⟩
    · simp at e0 e1 e2 e3 e4
      subst e0; subst e1; subst e2; subst e3; subst e4
      refine ⟨S3, _, .mk kind num B L D, (g1.trans g2).trans g3, .cons (.int _ _) (.cons (.int _ _) (.cons ((r1.mono g2.ext).mono g3.ext) (.cons (r2.mono g3.ext) (.cons r3 .nil)))), rfl, .mk kind num B L D bv lv dv lc dc ((s1.keeps g2.stay).keeps g3.stay) (s2.keeps g3.stay) s3 (f1.mono m12) (f2.mono m23) f3 (fun i hi => ((q2 i hi).keeps g3.stay).mono m23) (fun i hi => ?_) (fun i hi => ?_) (fun i hi => ?_), .mk k1 k2 k3 (fun e he => (let ⟨_, h⟩ := p3.mem e he; h.1.1)) (fun x hx => (let ⟨_, h⟩ := p2.mem x hx; h.1)) (fun e he => (let ⟨_, h⟩ := p3.mem e he; h.1.2)), bulked_mk (List.mem_map_of_mem (List.getElem_mem _)) (List.mem_map_of_mem (List.getElem_mem _)) (p2.imp fun h => h.2) (p3.imp fun h => h.2)⟩
      · obtain ⟨r, h1, _, _⟩ := q3 i hi
        exact (chunk6 h1).1
      · obtain ⟨r, h1, h2, _⟩ := q3 i hi
        rw [(chunk6 h1).2]; exact h2
      · obtain ⟨_, _, _, h3⟩ := q3 i hi
        exact h3
theorem sum_bulkAll : ∀ E : List (DataW H), (E.map Rows.uptoBulk).sum = Rows.uptoBulkAll E
  | [] => by simp [Rows.uptoBulkAll]
  | d :: E => by rw [List.map_cons, List.sum_cons, sum_bulkAll E, Rows.uptoBulkAll]
theorem bulk_ok : BulkOk (H := H) Rows.uptoBulk := by
  refine ⟨fun d => ?_, fun E R => ?_, fun E => ?_⟩
  · cases d with
    | lit l => cases l <;> simp [Rows.uptoBulk]
    | _ => simp [Rows.uptoBulk]
  · rw [sum_bulkAll]; simp only [Rows.uptoBulk]; omega
  · rw [sum_bulkAll]; simp only [Rows.uptoBulk]; omega
theorem arg_objW {S : St} (h : Begun W S) {r : Reach} {b0 : Nat} {v : Value} {d : DataW H} {ps : List MemPlace} (hval : Value.okWide Try.prog W r b0 26 v) (hd : DataW.Trod enc Try.prog W 0 (fun _ => true) true 26 v d ps) (hw : Wt Try.prog 26 d) (hk : Rows.uptoSmall H [d] = true) :
    ∃ (S' : St) (cs : List Value) (o : O), Grew W S S' ∧ VR S' (.agg cs.toArray) v ∧ OIs (fun _ => True) S'.s cs o ∧ Fit o ∧ (refsO o).length ≤ 1048576 ∧ depO o ≤ 1048576 := by
  obtain ⟨c, rfl, _⟩ := okWide_struct Try.underlying26 hval
  obtain ⟨fuel, hf⟩ := hd
  obtain ⟨S', cs', o, hg, hv, _, ho, hfit, hb⟩ := obj_openW fuel S h _ _ hf hw
  have h1 : Rows.uptoBulkAll [d] ≤ 1048576 := of_decide_eq_true hk
  have h2 := hb Rows.uptoBulk bulk_ok
  simp only [Rows.uptoBulkAll] at h1
  have h2 : (refsO o).length ≤ Rows.uptoBulk d ∧ depO o ≤ Rows.uptoBulk d := h2
  exact ⟨S', cs', o, hg, .agg _ _ hv.1 hv.2, ho.mono (fun _ _ => trivial), hfit, by omega, by omega⟩
end Go.Proofs.Ytdhdhbkikhedlaa
