/-
 A law's argument that is an object, or a slice of whatever stands in rows of cells: the start state it makes.
-/
import Derived.Test.YthlbahnfimigcaaObj
namespace Go.Cl
open Go.RowKit Go.ChangeShapes Go.WideShapes
structure Grew (W : World) (S S' : St) : Prop where
 begun : Begun W S'
 ext : Ext S S'
 stay : Stay S.s.next S.s S'.s
theorem Grew.refl {W : World} {S : St} (h : Begun W S) : Grew W S S := ⟨h, Ext.refl S, Stay.refl _ _⟩
theorem Grew.trans {W : World} {S S' S'' : St} (h : Grew W S S') (k : Grew W S' S'') : Grew W S S'' := ⟨k.begun, h.ext.trans k.ext, h.stay.trans (k.stay.weaken h.stay.next)⟩
variable {H : Type} {enc : TypeId × Value -> H} {P : Program}
theorem take_chunk {z : Nat} (l m : List Value) (i : Nat) (h : (i + 1) * z ≤ l.length) : ((l ++ m).drop (i * z)).take z = (l.drop (i * z)).take z := by
 rw [Nat.succ_mul] at h
 rw [List.drop_append_of_le_length (by omega), List.take_append_of_le_length (by rw [List.length_drop]; omega)]
def Wt (P : Program) (t : TypeId) (d : DataW H) : Prop := ∀ n ∈ d.weights P t, n ≤ reachBytes
theorem weightsAll_mem {e : TypeId} : ∀ {ds : List (DataW H)} {d : DataW H}, d ∈ ds -> ∀ n ∈ d.weights P e, n ∈ DataW.weightsAll P e ds
 | _ :: _, d, hd, n, hn => by
  rw [DataW.weightsAll, List.mem_append]
  rcases List.mem_cons.1 hd with h | h
  ·subst h; exact .inl hn
  ·exact .inr (weightsAll_mem h n hn)
theorem Wt.slice {t e : TypeId} (ht : P.underlying t = some (.slice e)) {E R : List (DataW H)} (h : Wt P t (.slice E R)) : (E.length + R.length) * P.bytesOf e ≤ reachBytes ∧ ∀ d ∈ E, Wt P e d := by
 refine ⟨h _ (by simp [DataW.weights, ht]), fun d hd n hn => h n ?_⟩
 simp only [DataW.weights, ht, List.mem_cons, List.mem_append]
 exact .inr (.inl (weightsAll_mem hd n hn))
theorem Wt.struct {t : TypeId} {fs : Array Field} (ht : P.underlying t = some (.struct fs)) {xs : List (DataW H)} (h : Wt P t (.agg xs)) {i : Nat} {u : TypeId} {d : DataW H} (hu : (fs.toList.map (·.type))[i]? = some u) (hd : xs[i]? = some d) : Wt P u d := by
 intro n hn
 refine h n ?_
 simp only [DataW.weights, ht]
 exact DataW.weights_mem_each hu hd n hn
theorem rows_open {W : World} {S : St} (h : Begun W S) {α : Type} {Q : (Nat -> Prop) -> ASt -> List Value -> α -> Prop} {p : α -> Prop} (hQ : ∀ {F s s' cs d}, Q F s cs d -> Stay s.next s s' -> Q F s' cs d) (hM : ∀ {F G : Nat -> Prop} {s cs d}, Q F s cs d -> (∀ j, F j -> G j) -> Q G s cs d) {t e : TypeId} {z fuel : Nat} (ht : P.underlying t = some (.slice e)) (hc : P.cellsOf e = z) (hz : 0 < z) {b8 : Nat} (hb1 : b8 ≤ P.bytesOf e)
  (hel : ∀ n, n < fuel -> ∀ S : St, Begun W S -> ∀ cs x, DataW.trod enc P W 0 (fun _ => true) true n e cs = some x -> Wt P e x.1 -> ∃ S' cs' d, Grew W S S' ∧ VRL S' cs' cs ∧ cs'.length = z ∧ Q (fun j => j < S'.s.next) S'.s cs' d ∧ p d)
  {cs : List Value} {x : DataW H × List MemPlace} (hf : DataW.trod enc P W 0 (fun _ => true) true fuel t cs = some x) (hwt : Wt P t x.1) :
  ∃ (S' : St) (v' v : Value) (lc : List Value) (D : List α), cs = [v] ∧ Grew W S S' ∧ VR S' v' v ∧ Sees S'.s z v' D.length lc ∧ Foot (fun j => j < S'.s.next) v' ∧ (∀ i (h : i < D.length), Q (fun j => j < S'.s.next) S'.s ((lc.drop (i * z)).take z) D[i]) ∧ (∀ d ∈ D, p d) ∧ D.length * b8 ≤ reachBytes := by
 rcases DataW.trod_slice ht hf with ⟨rfl, _⟩ | ⟨a', len, cap, elems, rest, n, hn, rfl, rfl, hb, hlc, hm, hlen', hel', hsp, _⟩
 ·exact ⟨S, .slice none 0 0, _, [], [], rfl, Grew.refl h, .sliceNil, .nil, trivial, (fun i h => absurd h (Nat.not_lt_zero i)), (fun d hd => by cases hd), by simp⟩
 by_cases hcap : cap = 0
 ·subst hcap
  obtain rfl : len = 0 := by omega
  exact ⟨S, .slice (some ⟨0, 0, none⟩) 0 0, _, [], [], rfl, Grew.refl h, .slice 0 0 0 0 a' 0 (Nat.le_refl _) (fun _ => rfl) (fun hx => by omega), .bare _ _, (fun hc => absurd rfl hc), (fun i h => absurd h (Nat.not_lt_zero i)), (fun d hd => by cases hd), by simp⟩
 rw [hc] at hel' hsp
 obtain ⟨hw1, hw2⟩ := Wt.slice ht hwt
 have each : ∀ i, i < cap -> ∃ ds y, W.cells? 0 (a'.add (i * z)) z = some ds ∧ DataW.trod enc P W 0 (fun _ => true) true n e ds = some y ∧ (i < len -> Wt P e y.1) := by
  intro i hi
  have : ∃ y, (W.cells? 0 (a'.add (i * z)) z).bind (DataW.trod enc P W 0 (fun _ => true) true n e) = some y ∧ (i < len -> Wt P e y.1) := by
   by_cases hil : i < len
   ·have := hel' i hil
    rw [List.getElem?_eq_getElem (by omega)] at this
    exact ⟨_, this, fun _ => hw2 _ (List.mem_map_of_mem (List.getElem_mem _))⟩
   ·obtain ⟨hr1, hr2⟩ := hsp rfl
    have := hr2 (i - len) (by omega)
    rw [show len + (i - len) = i by omega, List.getElem?_eq_getElem (by omega)] at this
    exact ⟨_, this, fun h => absurd h hil⟩
  obtain ⟨y, hy, hyw⟩ := this
  rw [Option.bind_eq_some_iff] at hy
  obtain ⟨ds, h1, h2⟩ := hy
  exact ⟨ds, y, h1, h2, hyw⟩
 have hspot : a'.spot = none := by
  obtain ⟨ds, _, hd, _, _⟩ := each 0 (by omega)
  obtain ⟨hl, _, hg⟩ := World.cells?_some hd
  have h0 := hg 0 hz
  rw [List.getElem?_eq_getElem (by omega)] at h0
  have := cell_spot h0
  rw [Nat.zero_mul] at this
  simpa [Addr.add] using this
 obtain ⟨ab, ao, asp⟩ := a'
 simp only at hspot; subst hspot
 have hcell : ∀ i ds, i < cap -> W.cells? 0 ((⟨ab, ao, none⟩ : Addr).add (i * z)) z = some ds -> ∀ j, j < z -> W.cell? ⟨ab, ao + (i * z + j), none⟩ = some (ds.getD j undef) := by
  intro i ds hi hd j hj
  obtain ⟨hl, _, hg⟩ := World.cells?_some hd
  have := hg j hj
  rw [add_none, add_none, List.getElem?_eq_getElem (by omega)] at this
  rw [← Nat.add_assoc, this]
  simp [List.getD, List.getElem?_eq_getElem (show j < ds.length by omega)]
 have all : ∀ k, k ≤ len -> ∃ (S' : St) (lc : List Value) (D : List α), Grew W S S' ∧ D.length = k ∧ lc.length = k * z ∧ (∀ q, q < k * z -> ∃ w, W.cell? ⟨ab, ao + q, none⟩ = some w ∧ VR S' (lc.getD q undef) w) ∧ (∀ d ∈ D, p d) ∧ ∀ i (h : i < D.length), Q (fun j => j < S'.s.next) S'.s ((lc.drop (i * z)).take z) D[i] := by
  intro k
  induction k with
  | zero => intro _; exact ⟨S, [], [], Grew.refl h, rfl, by simp, (fun q hq => by omega), (fun d hd => by cases hd), fun i h => absurd h (Nat.not_lt_zero i)⟩
  | succ k ih =>
   intro hk
   obtain ⟨S1, lc, D, hg, hD, hlc', hcells, hpD, hq⟩ := ih (by omega)
   obtain ⟨ds, y, hd, hy, hyw⟩ := each k (by omega)
   obtain ⟨S2, ds', d, hg2, hv2, hl2, hq2, hp2⟩ := hel n (by omega) S1 hg.begun ds y hy (hyw (by omega))
   have hs2 := hg2.stay
   refine ⟨S2, lc ++ ds', D ++ [d], hg.trans hg2, by simp [hD], by rw [List.length_append, hlc', hl2, Nat.succ_mul], (fun q hq' => ?_), (fun c hc => ?_), fun i hi => ?_⟩
   ·rw [Nat.succ_mul] at hq'
    by_cases hqk : q < k * z
    ·obtain ⟨w, h1, h2⟩ := hcells q hqk
     refine ⟨w, h1, ?_⟩
     rw [List.getD_eq_getElem?_getD, List.getElem?_append_left (by omega), ← List.getD_eq_getElem?_getD]
     exact h2.mono hg2.ext
    ·refine ⟨_, by have := hcell k ds (by omega) hd (q - k * z) (by omega); rw [show k * z + (q - k * z) = q by omega] at this; exact this, ?_⟩
     rw [List.getD_eq_getElem?_getD, List.getElem?_append_right (by omega), hlc', ← List.getD_eq_getElem?_getD]
     exact hv2.2 _ (by omega)
   ·rcases List.mem_append.1 hc with h | h
    ·exact hpD c h
    ·rw [List.mem_singleton.1 h]; exact hp2
   ·have hi' : i < k + 1 := by simpa [hD] using hi
    by_cases hik : i < k
    ·rw [take_chunk _ _ _ (by rw [hlc']; exact Nat.mul_le_mul_right z hik), List.getElem_append_left (by omega)]
     exact hM (hQ (hq i (by omega)) hs2) (fun j hj => Nat.lt_of_lt_of_le hj hs2.next)
    ·obtain rfl : i = k := by omega
     have e1 : ((lc ++ ds').drop (i * z)).take z = ds' := by
      rw [← hlc', List.drop_left, List.take_of_length_le (by omega)]
     rw [e1, List.getElem_append_right (by omega)]
     simp only [hD, Nat.sub_self, List.getElem_cons_zero]
     exact hq2
 obtain ⟨S1, lc, D, hg, hD, hlcl, hcells, hpD, hq⟩ := all len (Nat.le_refl _)
 have hblk : ∃ arr E fr, W.heap[ab]? = some (.cells arr E fr) ∧ ao + cap * z ≤ arr.size := by
  obtain ⟨ds, _, hd, _, _⟩ := each (cap - 1) (by omega)
  obtain ⟨arr, E, fr, h1, h2⟩ := cell_size (hcell (cap - 1) ds (by omega) hd (z - 1) (by omega))
  refine ⟨arr, E, fr, h1, ?_⟩
  have : cap * z = (cap - 1) * z + z := by
   conv => lhs; rw [show cap = (cap - 1) + 1 by omega, Nat.succ_mul]
  omega
 obtain ⟨arr, E, fr, hh, hsz⟩ := hblk
 have hlt : ab < W.heap.size := by
  rcases Nat.lt_or_ge ab W.heap.size with q | q
  ·exact q
  ·rw [Array.getElem?_eq_none q] at hh; cases hh
 obtain ⟨h1, h2, h3, h4⟩ := hg.begun.push ⟨lc, len * z + 1, false, z⟩ (ab, ao) rfl (by simp) (fun c hc => by simp only [Live, hlcl] at hc ⊢; omega) (fun c _ => hlt) (fun c _ q hq => by
  simp only [hlcl] at hq
  exact hcells q hq)
 have hnb : (S1.pushOld ⟨lc, len * z + 1, false, z⟩ (ab, ao)).s.blk? S1.s.next = some ⟨lc, len * z + 1, false, z⟩ := blk_new _ _
 have hS2w := h1.w
 refine ⟨_, .slice (some ⟨S1.s.next, 0, none⟩) len (len * z + 1), _, lc, D, rfl, hg.trans ⟨h1, h2, h3⟩, ?_, ?_, (fun _ => by show S1.s.next < _; rw [h4]; omega), (fun i hi => ?_), hpD, ?_⟩
 ·refine .slice _ _ _ _ _ cap hlc (fun q => by omega) (fun _ => ⟨⟨_, hnb, by simp only [hlcl]; omega, fun _ => ?_⟩, fun b hb hl => ?_⟩)
  ·simp only [St.pushOld, if_true]; simp
  ·rw [hnb] at hb; obtain rfl := Option.some.inj hb
   exact ⟨arr, E, fr, by rw [hS2w]; exact hh, hsz⟩
 ·rw [hD]
  refine .of S1.s.next 0 len _ _ _ (by rw [h4]; omega) hnb rfl (by simp) (by simp only [hlcl]; omega) hlcl (by omega) ?_
  rw [List.drop_zero]; exact List.take_of_length_le (by show lc.length ≤ _; omega)
 ·exact hM (hQ (hq i hi) h3) (fun j hj => by have : j < S1.s.next := hj; show j < _; rw [h4]; omega)
 ·rw [hD]
  rw [List.length_map, List.length_map, hlen'] at hw1
  exact Nat.le_trans (Nat.mul_le_mul (Nat.le_add_right _ _) hb1) hw1
end Go.Cl