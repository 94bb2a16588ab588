/-
 The clean machine: a law's argument that is a slice of structs, whose fields are whole numbers or texts.
-/
import Derived.Test.YthlbahnfimigcaaStart
namespace Go.Cl
open Go.RowKit Go.ChangeShapes Go.WideShapes
theorem list_of {α : Type} {q : Nat -> α -> Prop} : ∀ n : Nat, (∀ i, i < n -> ∃ d, q i d) -> ∃ D : List α, D.length = n ∧ ∀ i, i < n -> ∃ d, D[i]? = some d ∧ q i d := by
 intro n
 induction n with
 | zero => intro _; exact ⟨[], rfl, fun i h => by omega⟩
 | succ n ih =>
  intro h
  obtain ⟨D, h1, h2⟩ := ih (fun i hi => h i (by omega))
  obtain ⟨d, hd⟩ := h n (by omega)
  refine ⟨D ++ [d], by simp [h1], fun i hi => ?_⟩
  by_cases hin : i < n
  ·obtain ⟨e, e1, e2⟩ := h2 i hin
   exact ⟨e, by rw [List.getElem?_append_left (by omega)]; exact e1, e2⟩
  ·obtain rfl : i = n := by omega
   exact ⟨d, by rw [List.getElem?_append_right (by omega), h1, Nat.sub_self]; rfl, hd⟩
theorem flat_length {α : Type} {f : α -> List Value} {z : Nat} (hl : ∀ d, (f d).length = z) : ∀ D : List α, (D.flatMap f).length = D.length * z := by
 intro D
 induction D with
 | nil => simp
 | cons d D ih => rw [List.flatMap_cons, List.length_append, hl, ih, List.length_cons, Nat.succ_mul, Nat.add_comm]
theorem flat_get {α : Type} {f : α -> List Value} {z : Nat} (hl : ∀ d, (f d).length = z) {j : Nat} (hj : j < z) : ∀ (D : List α) (i : Nat) (d : α), D[i]? = some d -> (D.flatMap f).getD (i * z + j) undef = (f d).getD j undef := by
 intro D
 induction D with
 | nil => intro i d h; simp at h
 | cons e D ih =>
  intro i d h
  rw [List.flatMap_cons, List.getD_eq_getElem?_getD]
  cases i with
  | zero =>
   simp at h; subst h
   rw [Nat.zero_mul, Nat.zero_add, List.getElem?_append_left (by rw [hl]; exact hj), List.getD_eq_getElem?_getD]
  | succ i =>
   have h' : D[i]? = some d := by simpa using h
   rw [List.getElem?_append_right (by rw [hl, Nat.succ_mul]; omega), hl]
   have e2 : (i + 1) * z + j - z = i * z + j := by rw [Nat.succ_mul]; omega
   rw [e2, ← List.getD_eq_getElem?_getD]
   exact ih i d h'
theorem add_none (b o n : Nat) : (⟨b, o, none⟩ : Addr).add n = ⟨b, o + n, none⟩ := by
 unfold Addr.add; split
 ·rename_i h; subst h; rfl
 ·rfl
theorem cell_spot {W : World} {a : Addr} {v : Value} (h : W.cell? a = some v) : a.spot = none := by
 unfold World.cell? at h
 split at h
 ·split at h
  ·cases h
  ·rename_i q; simpa using q
 ·cases h
theorem cell_size {W : World} {b o : Nat} {v : Value} (h : W.cell? ⟨b, o, none⟩ = some v) : ∃ arr E fr, W.heap[b]? = some (.cells arr E fr) ∧ o < arr.size := by
 unfold World.cell? at h
 split at h
 ·rename_i c E fr hh
  refine ⟨c, E, fr, hh, ?_⟩
  simp only [Option.isSome_none, Bool.false_eq_true, if_false] at h
  rcases Nat.lt_or_ge o c.size with q | q
  ·exact q
  ·rw [Array.getElem?_eq_none q] at h; cases h
 ·cases h
variable {H : Type} {enc : TypeId × Value -> H} {P : Program}
theorem Begun.rows {W : World} {S : St} (h : Begun W S) {α : Type} (f : α -> List Value) (p : α -> Prop) {t e : TypeId} {z : Nat} {r : Reach} {b0 : Nat} {v : Value} {d : DataW H} {ps : List MemPlace} (ht : P.underlying t = some (.slice e)) (hc : P.cellsOf e = z) (hz : 0 < z)
  (hrow : ∀ fuel cs x, DataW.trod enc P W 0 (fun _ => true) true fuel e cs = some x -> ∃ d, p d ∧ cs = f d) (hl : ∀ d, (f d).length = z) (hvr : ∀ (S : St) d v, v ∈ f d -> VR S v v)
  (hval : Value.okWide P W r b0 t v) (hd : DataW.Trod enc P W 0 (fun _ => true) true t v d ps) :
  ∃ (S' : St) (v' : Value) (D : List α), Joins W S S' v' v ∧ Sees S'.s z v' D.length (D.flatMap f) ∧ (∀ d ∈ D, p d) := by
 obtain ⟨a, len, cap, rfl⟩ := okWide_slice ht hval
 obtain ⟨fuel, hf⟩ := hd
 have dead : ∀ v', VR S v' (.slice a len cap) -> ∃ S', Joins W S S' v' (.slice a len cap) := fun v' hv => by
  obtain ⟨h1, h2, h3, h4⟩ := h.push ⟨[], 2, false, 1⟩ (0, 0) rfl (by simp) (fun c hc => by simp only [Live, List.length_nil] at hc; omega) (fun c hc => by simp only [Live, List.length_nil] at hc; omega) (fun c hc => by simp only [Live, List.length_nil] at hc; omega)
  exact ⟨_, h1, h2, h3, h4, hv.mono h2⟩
 rcases DataW.trod_slice ht hf with ⟨hcs, _⟩ | ⟨a', len', cap', elems, rest, n, _, hcs, _, hb, hlc, hm, hlen', hel, hsp, _⟩
 ·have hcs' : [Value.slice a len cap] = [Value.slice none 0 0] := hcs
  injection hcs' with hcs' _
  injection hcs' with e1 e2 e3; subst e1; subst e2; subst e3
  obtain ⟨S', hj⟩ := dead (.slice none 0 0) .sliceNil
  exact ⟨S', _, [], hj, .nil, fun d hd => by cases hd⟩
 ·have hcs' : [Value.slice a len cap] = [Value.slice (some a') len' cap'] := hcs
  injection hcs' with hcs' _
  injection hcs' with e1 e2 e3; subst e1; subst e2; subst e3
  by_cases hcap : cap = 0
  ·subst hcap
   obtain rfl : len = 0 := by omega
   obtain ⟨S', hj⟩ := dead (.slice (some ⟨0, 0, none⟩) 0 0) (.slice 0 0 0 0 a' 0 (Nat.le_refl _) (fun _ => rfl) (fun hx => by omega))
   exact ⟨S', _, [], hj, .bare _ _, fun d hd => by cases hd⟩
  ·rw [hc] at hel hsp
   have each : ∀ i, i < cap -> ∃ d, p d ∧ W.cells? 0 (a'.add (i * z)) z = some (f d) := by
    intro i hi
    have : ∃ y, (W.cells? 0 (a'.add (i * z)) z).bind (DataW.trod enc P W 0 (fun _ => true) true n e) = some y := by
     by_cases hil : i < len
     ·have := hel i hil
      rw [List.getElem?_eq_getElem (by omega)] at this
      exact ⟨_, this⟩
     ·obtain ⟨hr1, hr2⟩ := hsp rfl
      have := hr2 (i - len) (by omega)
      rw [show len + (i - len) = i by omega, List.getElem?_eq_getElem (by omega)] at this
      exact ⟨_, this⟩
    obtain ⟨y, hy⟩ := this
    rw [Option.bind_eq_some_iff] at hy
    obtain ⟨cs, hcs, hy⟩ := hy
    obtain ⟨d, hd, rfl⟩ := hrow _ _ _ hy
    exact ⟨d, hd, hcs⟩
   obtain ⟨D, hDl, hD⟩ := list_of cap each
   have hspot : a'.spot = none := by
    obtain ⟨d, _, _, hd⟩ := hD 0 (by omega)
    obtain ⟨_, _, hg⟩ := World.cells?_some hd
    have h0 := hg 0 hz
    rw [List.getElem?_eq_getElem (by rw [hl]; exact hz)] at h0
    have := cell_spot h0
    rw [Nat.zero_mul] at this
    simpa [Addr.add] using this
   obtain ⟨ab, ao, asp⟩ := a'
   simp only at hspot; subst hspot
   have hcell : ∀ i d j, D[i]? = some d -> j < z -> W.cell? ⟨ab, ao + (i * z + j), none⟩ = some ((f d).getD j undef) := by
    intro i d j hi hj
    have hic : i < cap := by
     rcases Nat.lt_or_ge i D.length with q | q
     ·omega
     ·rw [List.getElem?_eq_none q] at hi; cases hi
    obtain ⟨d', e1, _, hd⟩ := hD i hic
    rw [hi] at e1; injection e1 with e1; subst e1
    obtain ⟨_, _, hg⟩ := World.cells?_some hd
    have := hg j hj
    rw [add_none, add_none, List.getElem?_eq_getElem (by rw [hl]; exact hj)] at this
    rw [← Nat.add_assoc, this]
    simp [List.getD, List.getElem?_eq_getElem (show j < (f d).length by rw [hl]; exact hj)]
   have hblk : ∃ arr E fr, W.heap[ab]? = some (.cells arr E fr) ∧ ao + cap * z ≤ arr.size := by
    obtain ⟨d, hd, _⟩ := hD (cap - 1) (by omega)
    obtain ⟨arr, E, fr, h1, h2⟩ := cell_size (hcell (cap - 1) d (z - 1) hd (by omega))
    refine ⟨arr, E, fr, h1, ?_⟩
    have : cap * z = (cap - 1) * z + z := by
     conv => lhs; rw [show cap = (cap - 1) + 1 by omega, Nat.succ_mul]
    omega
   obtain ⟨arr, E, fr, hh, hsz⟩ := hblk
   have hlt : ab < W.heap.size := by
    rcases Nat.lt_or_ge ab W.heap.size with q | q
    ·exact q
    ·rw [Array.getElem?_eq_none q] at hh; cases hh
   have hTl : (D.take len).length = len := by rw [List.length_take]; omega
   have hFl : ((D.take len).flatMap f).length = len * z := by rw [flat_length hl, hTl]
   have hFg : ∀ q, q < len * z -> ∃ i d j, D[i]? = some d ∧ j < z ∧ q = i * z + j ∧ ((D.take len).flatMap f).getD q undef = (f d).getD j undef := by
    intro q hq
    have hqz : q / z < len := Nat.div_lt_of_lt_mul (by rw [Nat.mul_comm]; exact hq)
    have hq2 : q = q / z * z + q % z := by rw [Nat.mul_comm]; exact (Nat.div_add_mod q z).symm
    have hm2 : q % z < z := Nat.mod_lt _ hz
    obtain ⟨d, hd, _⟩ := hD (q / z) (by omega)
    have hdt : (D.take len)[q / z]? = some d := by rw [List.getElem?_take, if_pos hqz]; exact hd
    refine ⟨q / z, d, q % z, hd, hm2, hq2, ?_⟩
    conv => lhs; rw [hq2]
    exact flat_get hl hm2 _ _ _ hdt
   obtain ⟨h1, h2, h3, h4⟩ := h.push ⟨(D.take len).flatMap f, len * z + 1, false, z⟩ (ab, ao) rfl (by simp) (fun c hc => by simp only [Live, hFl] at hc ⊢; omega) (fun c _ => hlt) (fun c _ q hq => by
    simp only [hFl] at hq
    obtain ⟨i, d, j, hd, hj, e1, e2⟩ := hFg q hq
    refine ⟨(f d).getD j undef, by rw [e1]; exact hcell i d j hd hj, ?_⟩
    rw [e2]
    have hjl : j < (f d).length := by rw [hl]; exact hj
    refine hvr _ d _ ?_
    rw [List.getD_eq_getElem?_getD, List.getElem?_eq_getElem hjl]
    exact List.getElem_mem hjl)
   have hnb : (S.pushOld ⟨(D.take len).flatMap f, len * z + 1, false, z⟩ (ab, ao)).s.blk? S.s.next = some ⟨(D.take len).flatMap f, len * z + 1, false, z⟩ := blk_new _ _
   refine ⟨_, .slice (some ⟨S.s.next, 0, none⟩) len (len * z + 1), D.take len, ⟨h1, h2, h3, h4, ?_⟩, ?_, fun d hd => ?_⟩
   ·refine .slice _ _ _ _ _ cap hlc (fun q => by omega) (fun _ => ⟨⟨_, hnb, by simp only [hFl]; omega, fun _ => ?_⟩, fun b hb hl => ?_⟩)
    ·simp only [St.pushOld, if_true]; simp
    ·rw [hnb] at hb; obtain rfl := Option.some.inj hb
     exact ⟨arr, E, fr, by show S.w.heap[ab]? = _; rw [h.w]; exact hh, hsz⟩
   ·rw [hTl]
    refine .of S.s.next 0 len _ _ _ (by rw [h4]; omega) hnb rfl (by simp) (by simp only [hFl]; omega) hFl (by omega) ?_
    rw [List.drop_zero]; exact List.take_of_length_le (by rw [hFl]; exact Nat.le_refl _)
   ·obtain ⟨i, hi⟩ := List.getElem?_of_mem (List.mem_of_mem_take hd)
    have hic : i < cap := by
     rcases Nat.lt_or_ge i D.length with q | q
     ·omega
     ·rw [List.getElem?_eq_none q] at hi; cases hi
    obtain ⟨d', e1, hp, _⟩ := hD i hic
    rw [hi] at e1; injection e1 with e1; subst e1; exact hp
def plusPtr : Value -> Nat -> Value
 | .pointer (some ⟨i, o, some c⟩), j => .pointer (some ⟨i, o + j, some c⟩)
 | v, _ => v
theorem valEq_plus (z : Nat) (v : Value) (k j : Nat) : valEq (plusPtr (elemPtr z v k) j) (plusPtr (elemPtr z v k) j) = true := by
 unfold elemPtr
 split <;> exact valEq_pointer _
theorem Sees.loadField {e : TypeId} (hag : isAggB P e = some false) {s : ASt} {z : Nat} {v : Value} {n : Nat} {l : List Value} (h : Sees s z v n l) {k j : Nat} (hk : k < n) (hj : j < z) : loadA P s e (plusPtr (elemPtr z v k) j) = some (l.getD (k * z + j) undef) := by
 have hlen := h.length
 cases h with
 | nil => omega
 | bare => omega
 | of i off n c b l hi hb hz hl hc hlen hoff ht =>
  have hkz : k * z + z ≤ n * z := by
   have : (k + 1) * z ≤ n * z := Nat.mul_le_mul_right z hk
   rwa [Nat.succ_mul] at this
  show loadA P s e (.pointer (some ⟨i, off + k * z + j, some c⟩)) = _
  unfold loadA
  simp only [hag]
  rw [cellsAt_eq hb hl hc (by omega)]
  have e2 : b.cells.drop (off + k * z + j) = (b.cells.drop off).drop (k * z + j) := by rw [List.drop_drop]; congr 1; omega
  have hll : k * z + j < l.length := by omega
  have e3 : ((b.cells.drop off).drop (k * z + j)).take 1 = [l.getD (k * z + j) undef] := by
   have : ((b.cells.drop off).drop (k * z + j)).take 1 = (((b.cells.drop off).take (n * z)).drop (k * z + j)).take 1 := by
    rw [List.drop_take, List.take_take]; congr 1; omega
   rw [this, ht, List.drop_eq_getElem_cons hll, List.take_succ_cons, List.take_zero, List.getD_eq_getElem?_getD, List.getElem?_eq_getElem hll]
   rfl
  rw [e2, e3]
end Go.Cl