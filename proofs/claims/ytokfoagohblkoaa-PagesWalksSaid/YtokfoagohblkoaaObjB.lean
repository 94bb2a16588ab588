/-
 A law's argument that is an object, or a slice of whatever stands in rows of cells: the start state it makes.
-/
import Derived.Test.YtokfoagohblkoaaObj
import Derived.Test.YtokfoagohblkoaaTy
namespace Go.Cl
open Go.RowKit Go.ChangeShapes Go.WideShapes
structure Grew (W : World) (S S' : St) : Prop where
 begun : xD W S'
 ext : Ext S S'
 stay : Stay S.s.next S.s S'.s
theorem Grew.refl {W : World} {S : St} (h : xD W S) : Grew W S S := ⟨h, Ext.refl S, Stay.refl _ _⟩
theorem Grew.trans {W : World} {S S' S'' : St} (h : Grew W S S') (k : Grew W S' S'') : Grew W S S'' := ⟨k.begun, h.ext.trans k.ext, h.stay.trans (k.stay.weaken h.stay.next)⟩
variable {H : Type} {enc : TypeId × Value -> H} {P : Program}
theorem Tp {z : Nat} (l m : List Value) (i : Nat) (h : (i + 1) * z ≤ l.length) : ((l ++ m).drop (i * z)).take z = (l.drop (i * z)).take z := by
 rw [Nat.succ_mul] at h
 rw [List.drop_append_of_le_length (by omega), List.take_append_of_le_length (by rw [List.length_drop]; omega)]
def Wt (P : Program) (t : TypeId) (d : DataW H) : Prop := ∀ n ∈ d.weights P t, n ≤ reachBytes
theorem Zd {e : TypeId} : ∀ {ds : List (DataW H)} {d : DataW H}, d ∈ ds -> ∀ n ∈ d.weights P e, n ∈ DataW.weightsAll P e ds
 | _ :: _, d, hd, n, hn => by
  rw [DataW.weightsAll, List.mem_append]
  rcases List.mem_cons.1 hd with h | h
  ·subst h; exact .inl hn
  ·exact .inr (Zd h n hn)
theorem Wt.slice {t e : TypeId} (ht : P.underlying t = some (.slice e)) {E R : List (DataW H)} (h : Wt P t (.slice E R)) : (E.length + R.length) * P.bytesOf e ≤ reachBytes ∧ ∀ d ∈ E, Wt P e d := by
 refine ⟨h _ (by simp [DataW.weights, ht]), fun d hd n hn => h n ?_⟩
 simp only [DataW.weights, ht, List.mem_cons, List.mem_append]
 exact .inr (.inl (Zd hd n hn))
theorem Wt.struct {t : TypeId} {fs : Array Field} (ht : P.underlying t = some (.struct fs)) {xs : List (DataW H)} (h : Wt P t (.agg xs)) {i : Nat} {u : TypeId} {d : DataW H} (hu : (fs.toList.map (·.type))[i]? = some u) (hd : xs[i]? = some d) : Wt P u d := by
 intro n hn
 refine h n ?_
 simp only [DataW.weights, ht]
 exact DataW.weights_mem_each hu hd n hn
theorem qL {W : World} {S : St} (h : xD W S) {α : Type} {Q : (Nat -> Prop) -> ASt -> List Value -> α -> Prop} {p : α -> Prop} (hQ : ∀ {F s s' cs d}, Q F s cs d -> Stay s.next s s' -> Q F s' cs d) (hM : ∀ {F G : Nat -> Prop} {s cs d}, Q F s cs d -> (∀ j, F j -> G j) -> Q G s cs d) {t e : TypeId} {z fuel : Nat} (ht : P.underlying t = some (.slice e)) (hc : P.cellsOf e = z) (hz : 0 < z) {b8 : Nat} (hb1 : b8 ≤ P.bytesOf e)
  (hel : ∀ n, n < fuel -> ∀ S : St, xD W S -> ∀ cs x, DataW.trod enc P W 0 (fun _ => true) true n e cs = some x -> Wt P e x.1 -> ∃ S' cs' d, Grew W S S' ∧ VRL S' cs' cs ∧ cs'.length = z ∧ Q (fun j => j < S'.s.next) S'.s cs' d ∧ p d)
  {cs : List Value} {x : DataW H × List MemPlace} (hf : DataW.trod enc P W 0 (fun _ => true) true fuel t cs = some x) (hwt : Wt P t x.1) :
  ∃ (S' : St) (v' v : Value) (lc : List Value) (D : List α), cs = [v] ∧ Grew W S S' ∧ VR S' v' v ∧ Sees S'.s z v' D.length lc ∧ Foot (fun j => j < S'.s.next) v' ∧ (∀ i (h : i < D.length), Q (fun j => j < S'.s.next) S'.s ((lc.drop (i * z)).take z) D[i]) ∧ (∀ d ∈ D, p d) ∧ D.length * b8 ≤ reachBytes := by
 rcases DataW.trod_slice ht hf with ⟨rfl, _⟩ | ⟨a', len, cap, elems, rest, n, hn, rfl, rfl, hb, hlc, hm, hlen', hel', hsp, _⟩
 ·exact ⟨S, .slice none 0 0, _, [], [], rfl, Grew.refl h, .sliceNil, .nil, trivial, (fun i h => absurd h (Nat.not_lt_zero i)), (fun d hd => by cases hd), by simp⟩
 by_cases hcap : cap = 0
 ·subst hcap
  obtain rfl : len = 0 := by omega
  exact ⟨S, .slice (some ⟨0, 0, none⟩) 0 0, _, [], [], rfl, Grew.refl h, .slice 0 0 0 0 a' 0 (Nat.le_refl _) (fun _ => rfl) (fun hx => by omega), .bare _ _, (fun hc => absurd rfl hc), (fun i h => absurd h (Nat.not_lt_zero i)), (fun d hd => by cases hd), by simp⟩
 rw [hc] at hel' hsp
 obtain ⟨hw1, hw2⟩ := Wt.slice ht hwt
 have each : ∀ i, i < cap -> ∃ ds y, W.cells? 0 (a'.add (i * z)) z = some ds ∧ DataW.trod enc P W 0 (fun _ => true) true n e ds = some y ∧ (i < len -> Wt P e y.1) := by
  intro i hi
  have : ∃ y, (W.cells? 0 (a'.add (i * z)) z).bind (DataW.trod enc P W 0 (fun _ => true) true n e) = some y ∧ (i < len -> Wt P e y.1) := by
   by_cases hil : i < len
   ·have := hel' i hil
    rw [List.getElem?_eq_getElem (by omega)] at this
    exact ⟨_, this, fun _ => hw2 _ (List.mem_map_of_mem (List.getElem_mem _))⟩
   ·obtain ⟨hr1, hr2⟩ := hsp rfl
    have := hr2 (i - len) (by omega)
    rw [show len + (i - len) = i by omega, List.getElem?_eq_getElem (by omega)] at this
    exact ⟨_, this, fun h => absurd h hil⟩
  obtain ⟨y, hy, hyw⟩ := this
  rw [Option.bind_eq_some_iff] at hy
  obtain ⟨ds, h1, h2⟩ := hy
  exact ⟨ds, y, h1, h2, hyw⟩
 have hspot : a'.spot = none := by
  obtain ⟨ds, _, hd, _, _⟩ := each 0 (by omega)
  obtain ⟨hl, _, hg⟩ := World.cells?_some hd
  have h0 := hg 0 hz
  rw [List.getElem?_eq_getElem (by omega)] at h0
  have := Jg h0
  rw [Nat.zero_mul] at this
  simpa [Addr.add] using this
 obtain ⟨ab, ao, asp⟩ := a'
 simp only at hspot; subst hspot
 have hcell : ∀ i ds, i < cap -> W.cells? 0 ((⟨ab, ao, none⟩ : Addr).add (i * z)) z = some ds -> ∀ j, j < z -> W.cell? ⟨ab, ao + (i * z + j), none⟩ = some (ds.getD j undef) := by
  intro i ds hi hd j hj
  obtain ⟨hl, _, hg⟩ := World.cells?_some hd
  have := hg j hj
  rw [ZB, ZB, List.getElem?_eq_getElem (by omega)] at this
  rw [← Nat.add_assoc, this]
  simp [List.getD, List.getElem?_eq_getElem (show j < ds.length by omega)]
 have all : ∀ k, k ≤ len -> ∃ (S' : St) (lc : List Value) (D : List α), Grew W S S' ∧ D.length = k ∧ lc.length = k * z ∧ (∀ q, q < k * z -> ∃ w, W.cell? ⟨ab, ao + q, none⟩ = some w ∧ VR S' (lc.getD q undef) w) ∧ (∀ d ∈ D, p d) ∧ ∀ i (h : i < D.length), Q (fun j => j < S'.s.next) S'.s ((lc.drop (i * z)).take z) D[i] := by
  intro k
  induction k with
  | zero => intro _; exact ⟨S, [], [], Grew.refl h, rfl, by simp, (fun q hq => by omega), (fun d hd => by cases hd), fun i h => absurd h (Nat.not_lt_zero i)⟩
  | succ k ih =>
   intro hk
   obtain ⟨S1, lc, D, hg, hD, hlc', hcells, hpD, hq⟩ := ih (by omega)
   obtain ⟨ds, y, hd, hy, hyw⟩ := each k (by omega)
   obtain ⟨S2, ds', d, hg2, hv2, hl2, hq2, hp2⟩ := hel n (by omega) S1 hg.begun ds y hy (hyw (by omega))
   have hs2 := hg2.stay
   refine ⟨S2, lc ++ ds', D ++ [d], hg.trans hg2, by simp [hD], by rw [List.length_append, hlc', hl2, Nat.succ_mul], (fun q hq' => ?_), (fun c hc => ?_), fun i hi => ?_⟩
   ·rw [Nat.succ_mul] at hq'
    by_cases hqk : q < k * z
    ·obtain ⟨w, h1, h2⟩ := hcells q hqk
     refine ⟨w, h1, ?_⟩
     rw [List.getD_eq_getElem?_getD, List.getElem?_append_left (by omega), ← List.getD_eq_getElem?_getD]
     exact h2.mono hg2.ext
    ·refine ⟨_, by have := hcell k ds (by omega) hd (q - k * z) (by omega); rw [show k * z + (q - k * z) = q by omega] at this; exact this, ?_⟩
     rw [List.getD_eq_getElem?_getD, List.getElem?_append_right (by omega), hlc', ← List.getD_eq_getElem?_getD]
     exact hv2.2 _ (by omega)
   ·rcases List.mem_append.1 hc with h | h
    ·exact hpD c h
    ·rw [List.mem_singleton.1 h]; exact hp2
   ·have hi' : i < k + 1 := by simpa [hD] using hi
    by_cases hik : i < k
    ·rw [Tp _ _ _ (by rw [hlc']; exact Nat.mul_le_mul_right z hik), List.getElem_append_left (by omega)]
     exact hM (hQ (hq i (by omega)) hs2) (fun j hj => Nat.lt_of_lt_of_le hj hs2.next)
    ·obtain rfl : i = k := by omega
     have e1 : ((lc ++ ds').drop (i * z)).take z = ds' := by
      rw [← hlc', List.drop_left, List.take_of_length_le (by omega)]
     rw [e1, List.getElem_append_right (by omega)]
     simp only [hD, Nat.sub_self, List.getElem_cons_zero]
     exact hq2
 obtain ⟨S1, lc, D, hg, hD, hlcl, hcells, hpD, hq⟩ := all len (Nat.le_refl _)
 have hblk : ∃ arr E fr, W.heap[ab]? = some (.cells arr E fr) ∧ ao + cap * z ≤ arr.size := by
  obtain ⟨ds, _, hd, _, _⟩ := each (cap - 1) (by omega)
  obtain ⟨arr, E, fr, h1, h2⟩ := Jh (hcell (cap - 1) ds (by omega) hd (z - 1) (by omega))
  refine ⟨arr, E, fr, h1, ?_⟩
  have : cap * z = (cap - 1) * z + z := by
   conv => lhs; rw [show cap = (cap - 1) + 1 by omega, Nat.succ_mul]
  omega
 obtain ⟨arr, E, fr, hh, hsz⟩ := hblk
 have hlt : ab < W.heap.size := by
  rcases Nat.lt_or_ge ab W.heap.size with q | q
  ·exact q
  ·rw [Array.getElem?_eq_none q] at hh; cases hh
 obtain ⟨h1, h2, h3, h4⟩ := hg.begun.push ⟨lc, len * z + 1, false, z⟩ (ab, ao) rfl (by simp) (fun c hc => by simp only [Live, hlcl] at hc ⊢; omega) (fun c _ => hlt) (fun c _ q hq => by
  simp only [hlcl] at hq
  exact hcells q hq)
 have hnb : (S1.pushOld ⟨lc, len * z + 1, false, z⟩ (ab, ao)).s.blk? S1.s.next = some ⟨lc, len * z + 1, false, z⟩ := vk _ _
 have hS2w := h1.w
 refine ⟨_, .slice (some ⟨S1.s.next, 0, none⟩) len (len * z + 1), _, lc, D, rfl, hg.trans ⟨h1, h2, h3⟩, ?_, ?_, (fun _ => by show S1.s.next < _; rw [h4]; omega), (fun i hi => ?_), hpD, ?_⟩
 ·refine .slice _ _ _ _ _ cap hlc (fun q => by omega) (fun _ => ⟨⟨_, hnb, by simp only [hlcl]; omega, fun _ => ?_⟩, fun b hb hl => ?_⟩)
  ·simp only [St.pushOld, if_true]; simp
  ·rw [hnb] at hb; obtain rfl := Option.some.inj hb
   exact ⟨arr, E, fr, by rw [hS2w]; exact hh, hsz⟩
 ·rw [hD]
  refine .of S1.s.next 0 len _ _ _ (by rw [h4]; omega) hnb rfl (by simp) (by simp only [hlcl]; omega) hlcl (by omega) ?_
  rw [List.drop_zero]; exact List.take_of_length_le (by show lc.length ≤ _; omega)
 ·exact hM (hQ (hq i hi) h3) (fun j hj => by have : j < S1.s.next := hj; show j < _; rw [h4]; omega)
 ·rw [hD]
  rw [List.length_map, List.length_map, hlen'] at hw1
  exact Nat.le_trans (Nat.mul_le_mul (Nat.le_add_right _ _) hb1) hw1
end Go.Cl
set_option linter.unusedSimpArgs false
set_option linter.unusedVariables false
set_option maxRecDepth 100000
namespace Go.Cl
theorem ve {lc r : List Value} {i : Nat} {a : Value} (h : (lc.drop (i * 6)).take 6 = a :: r) : lc.getD (i * 6) undef = a ∧ (lc.drop (i * 6 + 1)).take 5 = r := by
 constructor
 ·have h0 : ((lc.drop (i * 6)).take 6)[0]? = some a := by rw [h]; rfl
  rw [List.getElem?_take_of_lt (by omega), List.getElem?_drop, Nat.add_zero] at h0
  rw [List.getD_eq_getElem?_getD, h0]; rfl
 ·have h1 : ((lc.drop (i * 6)).take 6).drop 1 = r := by rw [h]; rfl
  rw [List.drop_take, List.drop_drop] at h1
  exact h1
theorem VO {lc : List Value} {D : List UInt8} (hl : lc.length = D.length) (h : ∀ i (h : i < D.length), (lc.drop (i * 1)).take 1 = [.int .u8 ((D[i]).toNat : Int)]) : lc = zF D := by
 refine List.ext_getElem? fun i => ?_
 by_cases hi : i < D.length
 ·have h0 : ((lc.drop (i * 1)).take 1)[0]? = some (.int .u8 ((D[i]).toNat : Int)) := by rw [h i hi]; rfl
  rw [List.getElem?_take_of_lt (by omega), List.getElem?_drop, Nat.add_zero, Nat.mul_one] at h0
  rw [h0]; simp [zF, List.getElem?_eq_getElem hi]
 ·rw [List.getElem?_eq_none (by omega), List.getElem?_eq_none (by rw [wU]; omega)]
end Go.Cl
namespace Go.Proofs.Ytokfoagohblkoaa
open Go.Cl
theorem coO : Try.prog.cellsOf 31 = 5 := by kernel_rfl
theorem coE : Try.prog.cellsOf 70 = 6 := by kernel_rfl
theorem coI : Try.prog.cellsOf 3 = 1 := by kernel_rfl
theorem coI64 : Try.prog.cellsOf 2 = 1 := by kernel_rfl
theorem coU8 : Try.prog.cellsOf 5 = 1 := by kernel_rfl
theorem coS : Try.prog.cellsOf 9 = 1 := by kernel_rfl
theorem coB : Try.prog.cellsOf 27 = 1 := by kernel_rfl
theorem coL : Try.prog.cellsOf 28 = 1 := by kernel_rfl
theorem coD : Try.prog.cellsOf 29 = 1 := by kernel_rfl
variable {H : Type} {enc : TypeId × Value -> H} {W : World}
theorem coB1 : 1 ≤ Try.prog.bytesOf 5 := by rw [show Try.prog.bytesOf 5 = 1 from by kernel_rfl]; decide
theorem coO1 : 88 ≤ Try.prog.bytesOf 31 := by rw [show Try.prog.bytesOf 31 = 88 from by kernel_rfl]; decide
theorem coE1 : 104 ≤ Try.prog.bytesOf 70 := by rw [show Try.prog.bytesOf 70 = 104 from by kernel_rfl]; decide
theorem Wr : reachBytes = 140737488351232 := by decide
def FitE (e : List UInt8 × O) : Prop := e.1.length ≤ 140737488351232 ∧ Fit e.2
theorem ent_of {n : Nat} (ih : ∀ m, m < n -> ∀ S : St, xD W S -> ∀ cs x, DataW.trod enc Try.prog W 0 (fun _ => true) true m 31 cs = some x -> Wt Try.prog 31 x.1 -> ∃ S' cs' o, Grew W S S' ∧ VRL S' cs' cs ∧ cs'.length = 5 ∧ OIs (fun j => j < S'.s.next) S'.s cs' o ∧ Fit o)
  {S : St} (hS : xD W S) {cs : List Value} {x : DataW H × List MemPlace} (h : DataW.trod enc Try.prog W 0 (fun _ => true) true n 70 cs = some x) (hwt : Wt Try.prog 70 x.1) :
  ∃ S' cs' e, Grew W S S' ∧ VRL S' cs' cs ∧ cs'.length = 6 ∧ yg (fun j => j < S'.s.next) S'.s cs' e ∧ FitE e := by
 obtain ⟨xs, m, hm, rfl, hl, hxl, hx⟩ := DataW.trod_struct Try.underlying70 h
 rw [coE] at hl
 have h0 := hx 0 _ rfl
 have h1 := hx 1 _ rfl
 change DataW.trod enc Try.prog W 0 (fun _ => true) true m 9 ((cs.drop 0).take (Try.prog.cellsOf 9)) = xs[0]? at h0
 change DataW.trod enc Try.prog W 0 (fun _ => true) true m 31 ((cs.drop 1).take (Try.prog.cellsOf 31)) = xs[1]? at h1
 rw [coS] at h0
 rw [coO] at h1
 have hs : xs.length = 2 := hxl
 rw [List.getElem?_eq_getElem (by omega)] at h0 h1
 have w0 : Wt Try.prog 9 (xs[0]).1 := hwt.struct Try.underlying70 (i := 0) rfl (by rw [List.getElem?_map, List.getElem?_eq_getElem (by omega)]; rfl)
 have w1 : Wt Try.prog 31 (xs[1]).1 := hwt.struct Try.underlying70 (i := 1) rfl (by rw [List.getElem?_map, List.getElem?_eq_getElem (by omega)]; rfl)
 obtain ⟨c, e0, ec, hcl⟩ := DataW.trod_string Try.underlying9 h0
 rw [ec] at w0
 have w0 := w0 c.data.toList.length (by simp [DataW.weights])
 rw [Wr] at w0
 obtain ⟨S', cs', o, hg, hv, hol, ho, hfo⟩ := ih m (by omega) S hS _ _ h1 w1
 obtain ⟨v0, v1, v2, v3, v4, v5, rfl⟩ : ∃ v0 v1 v2 v3 v4 v5, cs = [v0, v1, v2, v3, v4, v5] := by
  clear h h0 h1 e0
  match cs, hl with
  | [a, b, c, d, e, f], _ => exact ⟨_, _, _, _, _, _, rfl⟩
 ·simp at e0
  subst e0
  have hm : maxLen = 9223372036854775807 := by decide
  refine ⟨S', .string c :: cs', (c.data.toList, o), hg, .cons (.string _) hv, by simp [hol], ⟨cs', ?_, ho, ?_⟩, w0, hfo⟩
  ·cases c; simp
  ·show c.data.toList.length ≤ _
   have : c.data.toList.length = c.size := by rw [Array.length_toList]; rfl
   omega
theorem Ws : ∀ (fuel : Nat) (S : St), xD W S -> ∀ cs x, DataW.trod enc Try.prog W 0 (fun _ => true) true fuel 31 cs = some x -> Wt Try.prog 31 x.1 -> ∃ S' cs' o, Grew W S S' ∧ VRL S' cs' cs ∧ cs'.length = 5 ∧ OIs (fun j => j < S'.s.next) S'.s cs' o ∧ Fit o := by
 intro fuel
 induction fuel using Nat.strongRecOn with
 | _ fuel ih =>
  intro S hS cs x h hwt
  obtain ⟨xs, n, hn, rfl, hl, hxl, hx⟩ := DataW.trod_struct Try.underlying31 h
  rw [coO] at hl
  have h0 := hx 0 _ rfl
  have h1 := hx 1 _ rfl
  have h2 := hx 2 _ rfl
  have h3 := hx 3 _ rfl
  have h4 := hx 4 _ rfl
  change DataW.trod enc Try.prog W 0 (fun _ => true) true n 3 ((cs.drop 0).take (Try.prog.cellsOf 3)) = xs[0]? at h0
  change DataW.trod enc Try.prog W 0 (fun _ => true) true n 2 ((cs.drop 1).take (Try.prog.cellsOf 2)) = xs[1]? at h1
  change DataW.trod enc Try.prog W 0 (fun _ => true) true n 27 ((cs.drop 2).take (Try.prog.cellsOf 27)) = xs[2]? at h2
  change DataW.trod enc Try.prog W 0 (fun _ => true) true n 28 ((cs.drop 3).take (Try.prog.cellsOf 28)) = xs[3]? at h3
  change DataW.trod enc Try.prog W 0 (fun _ => true) true n 29 ((cs.drop 4).take (Try.prog.cellsOf 29)) = xs[4]? at h4
  rw [coI] at h0
  rw [coI64] at h1
  rw [coB] at h2
  rw [coL] at h3
  rw [coD] at h4
  have hs : xs.length = 5 := hxl
  rw [List.getElem?_eq_getElem (by omega)] at h0 h1 h2 h3 h4
  have w2 : Wt Try.prog 27 (xs[2]).1 := hwt.struct Try.underlying31 (i := 2) rfl (by rw [List.getElem?_map, List.getElem?_eq_getElem (by omega)]; rfl)
  have w3 : Wt Try.prog 28 (xs[3]).1 := hwt.struct Try.underlying31 (i := 3) rfl (by rw [List.getElem?_map, List.getElem?_eq_getElem (by omega)]; rfl)
  have w4 : Wt Try.prog 29 (xs[4]).1 := hwt.struct Try.underlying31 (i := 4) rfl (by rw [List.getElem?_map, List.getElem?_eq_getElem (by omega)]; rfl)
  obtain ⟨kind, e0, _⟩ := DataW.trod_int Try.underlying3 h0
  obtain ⟨num, e1, _⟩ := DataW.trod_int Try.underlying2 h1
  obtain ⟨S1, bv, bw, lb, B, e2, g1, r1, s1, f1, q1, _, k1⟩ := qL hS (Q := fun _ _ cs (d : UInt8) => cs = [.int .u8 (d.toNat : Int)]) (p := fun _ => True) (fun h _ => h) (fun h _ => h) Try.underlying27 coU8 (by decide) coB1 (fun m _ S hS cs x h _ => by
   obtain ⟨c, e, _, hw⟩ := DataW.trod_int Try.underlying5 h
   obtain ⟨bs, hb1, hb2⟩ := Wo (zs := [c]) (by simpa using hw)
   match bs, hb1 with
   | [u], _ =>
    have hb2 : [Value.int .u8 c] = [Value.int .u8 (u.toNat : Int)] := hb2
    exact ⟨S, [.int .u8 c], u, Grew.refl hS, by rw [e]; exact .cons (.int _ _) .nil, rfl, hb2, trivial⟩) h2 w2
  obtain ⟨S2, lv, lw, lc, L, e3, g2, r2, s2, f2, q2, p2, k2⟩ := qL g1.begun (Q := fun F s cs o => OIs F s cs o) (p := Fit) (fun h k => h.keeps k) (fun h k => h.mono k) Try.underlying28 coO (by decide) coO1 (fun m hm S hS cs x h hw => ih m (by omega) S hS cs x h hw) h3 w3
  obtain ⟨S3, dv, dw, dc, D, e4, g3, r3, s3, f3, q3, p3, k3⟩ := qL g2.begun (Q := fun F s cs e => yg F s cs e) (p := FitE) (fun h k => h.keeps k) (fun h k => h.mono k) Try.underlying29 coE (by decide) coE1 (fun m hm S hS cs x h hw => ent_of (fun m' hm' => ih m' (by omega)) hS h hw) h4 w4
  rw [Wr] at k1 k2 k3
  rw [Nat.mul_one] at k1
  have hlb := s1.length
  rw [Nat.mul_one] at hlb
  have hB : lb = zF B := VO hlb q1
  subst hB
  have m12 : ∀ j, j < S1.s.next -> j < S3.s.next := fun j hj => Nat.lt_of_lt_of_le hj (Nat.le_trans g2.stay.next g3.stay.next)
  have m23 : ∀ j, j < S2.s.next -> j < S3.s.next := fun j hj => Nat.lt_of_lt_of_le hj g3.stay.next
  obtain ⟨v0, v1, v2, v3, v4, rfl⟩ : ∃ v0 v1 v2 v3 v4, cs = [v0, v1, v2, v3, v4] := by
   clear h h0 h1 h2 h3 h4 e0 e1 e2 e3 e4
   match cs, hl with
   | [a, b, c, d, e], _ => exact ⟨_, _, _, _, _, rfl⟩
  ·simp at e0 e1 e2 e3 e4
   subst e0; subst e1; subst e2; subst e3; subst e4
   refine ⟨S3, _, .mk kind num B L D, (g1.trans g2).trans g3, .cons (.int _ _) (.cons (.int _ _) (.cons ((r1.mono g2.ext).mono g3.ext) (.cons (r2.mono g3.ext) (.cons r3 .nil)))), rfl, .mk kind num B L D bv lv dv lc dc ((s1.keeps g2.stay).keeps g3.stay) (s2.keeps g3.stay) s3 (f1.mono m12) (f2.mono m23) f3 (fun i hi => ((q2 i hi).keeps g3.stay).mono m23) (fun i hi => ?_) (fun i hi => ?_) (fun i hi => ?_), .mk k1 k2 k3 (fun e he => (p3 e he).1) p2 (fun e he => (p3 e he).2)⟩
   ·obtain ⟨r, h1, _, _⟩ := q3 i hi
    exact (ve h1).1
   ·obtain ⟨r, h1, h2, _⟩ := q3 i hi
    rw [(ve h1).2]; exact h2
   ·obtain ⟨_, _, _, h3⟩ := q3 i hi
    exact h3
end Go.Proofs.Ytokfoagohblkoaa
