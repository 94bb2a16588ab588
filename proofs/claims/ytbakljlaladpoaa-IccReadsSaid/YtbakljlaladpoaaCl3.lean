/-
  The clean machine, part 3: cells read and written, blocks laid, rows grown.
-/
import Derived.Test.YtbakljlaladpoaaCl2
namespace Go.Cl
open Go.RowKit

/-! Lists. -/
theorem takeN_eq : ∀ (n : Nat) (l : List Value), takeN n l = if n ≤ l.length then some (l.take n) else none := by
  intro n
  induction n with
  | zero => intro l; simp [takeN]
  | succ n ih =>
    intro l
    cases l with
    | nil => simp [takeN]
    | cons v r =>
      simp only [takeN, ih, List.length_cons, Nat.add_le_add_iff_right, List.take_succ_cons]
      by_cases h : n ≤ r.length <;> simp [h]
theorem dropN_eq : ∀ (n : Nat) (l : List Value), dropN n l = l.drop n := by
  intro n
  induction n with
  | zero => intro l; cases l <;> simp [dropN]
  | succ n ih => intro l; cases l with
    | nil => simp [dropN]
    | cons v r => simp [dropN, ih]
theorem setAt_spec : ∀ (l : List Value) (off : Nat) (vs r : List Value), setAt l off vs = some r →
    r.length = l.length ∧ (vs = [] ∨ off + vs.length ≤ l.length) ∧ ∀ p, r.getD p undef = if off ≤ p ∧ p < off + vs.length then vs.getD (p - off) undef else l.getD p undef := by
  intro l
  induction l with
  | nil =>
    intro off vs r h
    cases vs with
    | nil => simp only [setAt] at h; obtain rfl := Option.some.inj h; exact ⟨rfl, .inl rfl, fun p => by rw [if_neg (by simp)]⟩
    | cons v vs => simp [setAt] at h
  | cons c l ih =>
    intro off vs r h
    cases vs with
    | nil => simp only [setAt] at h; obtain rfl := Option.some.inj h; exact ⟨rfl, .inl rfl, fun p => by rw [if_neg (by simp)]⟩
    | cons v vs =>
      cases off with
      | zero =>
        simp only [setAt] at h
        split at h
        · rename_i m hm
          obtain rfl := Option.some.inj h
          obtain ⟨h1, h2, h3⟩ := ih 0 vs m hm
          refine ⟨by simp [h1], .inr ?_, fun p => ?_⟩
          · rcases h2 with rfl | h2
            · simp
            · simp; omega
          · cases p with
            | zero => simp
            | succ p =>
              have := h3 p
              simp only [Nat.zero_le, true_and, Nat.zero_add, Nat.sub_zero, List.getD_cons_succ, List.length_cons, Nat.add_lt_add_iff_right] at this ⊢
              exact this
        · cases h
      | succ n =>
        simp only [setAt] at h
        split at h
        · rename_i m hm
          obtain rfl := Option.some.inj h
          obtain ⟨h1, h2, h3⟩ := ih n (v :: vs) m hm
          refine ⟨by simp [h1], .inr ?_, fun p => ?_⟩
          · rcases h2 with h2 | h2
            · cases h2
            · simp at h2 ⊢; omega
          · cases p with
            | zero => rw [if_neg (by omega)]; simp
            | succ p =>
              have := h3 p
              simp only [List.getD_cons_succ]
              rw [this]
              by_cases hc : n ≤ p ∧ p < n + (v :: vs).length
              · rw [if_pos hc, if_pos (by omega), show p + 1 - (n + 1) = p - n by omega]
              · rw [if_neg hc, if_neg (by omega)]
        · cases h

/-- The cells of a world from a place on. -/
def conc (w : World) (k o n : Nat) : List Value := (List.range n).map fun p => (w.cell? ⟨k, o + p, none⟩).getD undef
theorem conc_length (w : World) (k o n : Nat) : (conc w k o n).length = n := by simp [conc]
theorem conc_getD (w : World) (k o n p : Nat) (h : p < n) : (conc w k o n).getD p undef = (w.cell? ⟨k, o + p, none⟩).getD undef := by
  simp [conc, List.getD_eq_getElem?_getD, h]
theorem conc_succ (w : World) (k o n : Nat) : conc w k o (n + 1) = (w.cell? ⟨k, o, none⟩).getD undef :: conc w k (o + 1) n := by
  simp only [conc, List.range_succ_eq_map, List.map_cons, List.map_map, Nat.add_zero]
  congr 1
  apply List.map_congr_left
  intro p _
  simp only [Function.comp, Nat.succ_eq_add_one]
  rw [show o + (p + 1) = o + 1 + p by omega]

theorem run_loadCellsFrom (P : Program) (w : World) (k o : Nat) : ∀ (n i : Nat) (acc : Array Value), (∀ p, p < n → ∃ v, w.cell? ⟨k, o + i + p, none⟩ = some v) →
    (loadCellsFrom ⟨k, o, none⟩ i n acc).run P w = .ok (acc ++ (conc w k (o + i) n).toArray) w := by
  intro n
  induction n with
  | zero => intro i acc _; simp [loadCellsFrom, conc]
  | succ n ih =>
    intro i acc h
    obtain ⟨v, hv⟩ := h 0 (by omega)
    simp only [Nat.add_zero] at hv
    have := ih (i + 1) (acc.push v) (fun p hp => by have := h (p + 1) (by omega); rwa [show o + i + (p + 1) = o + (i + 1) + p by omega] at this)
    simp only [loadCellsFrom, Sem.run_bind, run_load, Addr.add_lit, hv, Result.andThen_ok, this, conc_succ, Option.getD_some]
    congr 1
    rw [← Array.toList_inj]
    simp [Nat.add_assoc]
theorem run_loadCells (P : Program) (w : World) (k o n : Nat) (h : ∀ p, p < n → ∃ v, w.cell? ⟨k, o + p, none⟩ = some v) :
    (loadCells ⟨k, o, none⟩ n).run P w = .ok (conc w k o n).toArray w := by
  have := run_loadCellsFrom P w k o n 0 #[] (by simpa using h)
  simpa [loadCells] using this

/-! Stores. -/
def setCells (w : World) (k o : Nat) : List Value → World
  | [] => w
  | v :: r => setCells (w.setCell ⟨k, o, none⟩ v) k (o + 1) r

theorem setCell_block (w : World) (k o : Nat) (v : Value) (arr : Array Value) (E : TypeId) (fr : Nat × Nat) (h : w.heap[k]? = some (.cells arr E fr)) :
    (w.setCell ⟨k, o, none⟩ v).heap[k]? = some (.cells (arr.setIfInBounds o v) E fr) := by
  simp only [World.setCell, Array.getElem?_modify, if_true, h]
  rfl
theorem cell_of_block (w : World) (k o : Nat) (arr : Array Value) (E : TypeId) (fr : Nat × Nat) (h : w.heap[k]? = some (.cells arr E fr)) :
    w.cell? ⟨k, o, none⟩ = arr[o]? := by simp [World.cell?, h]
theorem block_of_cell {w : World} {k o : Nat} {v : Value} (h : w.cell? ⟨k, o, none⟩ = some v) : ∃ (arr : Array Value) (E : TypeId) (fr : Nat × Nat), w.heap[k]? = some (.cells arr E fr) ∧ arr[o]? = some v := by
  unfold World.cell? at h
  split at h
  · rename_i c E fr hk
    exact ⟨c, E, fr, hk, by simpa using h⟩
  · cases h
theorem lt_of_cells {w : World} {k : Nat} {o : Obj} (h : w.heap[k]? = some o) : k < w.heap.size := by
  rcases Nat.lt_or_ge k w.heap.size with h' | h'
  · exact h'
  · rw [Array.getElem?_eq_none h'] at h; cases h

theorem setCells_size : ∀ (vs : List Value) (w : World) (k o : Nat), (setCells w k o vs).heap.size = w.heap.size
  | [], _, _, _ => rfl
  | v :: r, w, k, o => by rw [setCells, setCells_size r]; simp
theorem setCells_ne : ∀ (vs : List Value) (w : World) (k o j : Nat), j ≠ k → (setCells w k o vs).heap[j]? = w.heap[j]?
  | [], _, _, _, _, _ => rfl
  | v :: r, w, k, o, j, h => by rw [setCells, setCells_ne r _ _ _ _ h]; exact Below.heap_setCell _ _ _ _ h
theorem setCells_below : ∀ (vs : List Value) (w : World) (k o B : Nat), B ≤ k → Below B w (setCells w k o vs)
  | [], w, _, _, B, _ => Below.refl B w
  | v :: r, w, k, o, B, h => ((Below.refl B w).setCell (p := ⟨k, o, none⟩) h v).trans (setCells_below r _ k (o + 1) B h)
theorem setCells_block : ∀ (vs : List Value) (w : World) (k o : Nat) (arr : Array Value) (E : TypeId) (fr : Nat × Nat), w.heap[k]? = some (.cells arr E fr) → o + vs.length ≤ arr.size →
    ∃ arr', (setCells w k o vs).heap[k]? = some (.cells arr' E fr) ∧ arr'.size = arr.size ∧ ∀ p, arr'[p]? = if o ≤ p ∧ p < o + vs.length then some (vs.getD (p - o) undef) else arr[p]? := by
  intro vs
  induction vs with
  | nil => intro w k o arr E fr h _; exact ⟨arr, h, rfl, fun p => by rw [if_neg (by simp)]⟩
  | cons v r ih =>
    intro w k o arr E fr h hle
    simp only [List.length_cons] at hle
    obtain ⟨arr', h1, h2, h3⟩ := ih (w.setCell ⟨k, o, none⟩ v) k (o + 1) _ E fr (setCell_block w k o v arr E fr h) (by simp; omega)
    refine ⟨arr', h1, by simpa using h2, fun p => ?_⟩
    rw [h3 p]
    by_cases hp : o + 1 ≤ p ∧ p < o + 1 + r.length
    · rw [if_pos hp, if_pos (by simp; omega), show p - o = (p - (o + 1)) + 1 by omega, List.getD_cons_succ]
    · rw [if_neg hp]
      by_cases hpo : p = o
      · subst hpo
        rw [if_pos (by simp), Array.getElem?_setIfInBounds_self_of_lt (by omega), Nat.sub_self, List.getD_cons_zero]
      · rw [if_neg (by simp; omega), Array.getElem?_setIfInBounds_ne (by omega)]

theorem okCell_oneCell {v : Value} (h : okCell v = true) : v.oneCell' = true := by cases v <;> simp_all [okCell, Value.oneCell']

theorem run_storeCells (P : Program) (k o : Nat) : ∀ (vs : List Value) (w : World) (i : Nat) (arr : Array Value) (E : TypeId) (fr : Nat × Nat), w.heap[k]? = some (.cells arr E fr) →
    (fr.1 = fr.2 ∨ arr.size ≤ fr.1) → o + i + vs.length ≤ arr.size → (∀ v ∈ vs, okCell v = true) → (storeCells ⟨k, o, none⟩ vs i).run P w = .ok () (setCells w k (o + i) vs) := by
  intro vs
  induction vs with
  | nil => intro w i arr E fr _ _ _ _; simp [storeCells, setCells]
  | cons v r ih =>
    intro w i arr E fr h hfr hle hok
    simp only [List.length_cons] at hle
    have hc : w.cell? ⟨k, o + i, none⟩ = some arr[o + i] := by rw [cell_of_block w k _ arr E fr h]; simp
    have hfz : w.frozen? ⟨k, o + i, none⟩ = false := by
      simp only [World.frozen?, h]
      rcases hfr with h1 | h1
      · rw [Bool.and_eq_false_iff]; simp; omega
      · rw [Bool.and_eq_false_iff]; simp; omega
    have hst : (store ⟨k, o + i, none⟩ v).run P w = .ok () (w.setCell ⟨k, o + i, none⟩ v) := by
      rw [run_store P w _ v .plain (okCell_oneCell (hok v (by simp)))]
      simp [hc, hfz]
    have := ih (w.setCell ⟨k, o + i, none⟩ v) (i + 1) _ E fr (setCell_block w k (o + i) v arr E fr h) (by simpa using hfr) (by simp; omega) (fun u hu => hok u (by simp [hu]))
    simp only [storeCells, Sem.run_bind, Addr.add_lit, hst, Result.andThen_ok, this, setCells, Nat.add_assoc]

/-! Cells of the relation. -/
theorem VR.okCell {S : St} {v v' : Value} (h : VR S v v') : okCell v = okCell v' := by cases h <;> rfl
theorem VRL.okCell {S : St} {l l' : List Value} (h : VRL S l l') (hok : l.all okCell = true) : ∀ v ∈ l', okCell v = true := by
  induction l generalizing l' with
  | nil => rw [h.nil_inv]; simp
  | cons v l ih =>
    obtain ⟨v', r', rfl, h1, h2⟩ := h.cons_inv
    simp only [List.all_cons, Bool.and_eq_true] at hok
    intro u hu
    rcases List.mem_cons.1 hu with rfl | hu
    · rw [← h1.okCell]; exact hok.1
    · exact ih h2 hok.2 u hu
theorem VR.cells {S : St} {v v' : Value} (h : VR S v v') : VRL S v.cells.toList v'.cells.toList := by
  cases h with
  | agg cs cs' h1 h2 => exact ⟨h1, h2⟩
  | raw b o => exact VRL.cons (.raw b o) VRL.nil
  | unk n => exact VRL.cons (.unk n) VRL.nil
  | iface t v v' h => exact VRL.cons (.iface t v v' h) VRL.nil
  | _ => exact VRL.cons (by first | assumption | (constructor <;> assumption) | constructor) VRL.nil

theorem live_of {b : Blk} {c n : Nat} (h : (Nat.ble b.low c && Nat.ble c (b.cells.length + 1) && Nat.blt n c) = true) : Live b c ∧ n < c := by
  simp only [Bool.and_eq_true, Nat.ble_eq, Nat.blt_eq] at h
  exact ⟨⟨h.1.1, h.1.2⟩, h.2⟩

theorem getD_drop_take (l : List Value) (o n p : Nat) (h : p < n) : ((l.drop o).take n).getD p undef = l.getD (o + p) undef := by
  simp [List.getD_eq_getElem?_getD, h]

theorem SR.cells {base : Nat} {S : St} (h : SR base S) {i off c n : Nat} {l : List Value} (hc : S.s.cellsAt i off c n = some l) :
    ∃ b, S.s.blk? i = some b ∧ Live b c ∧ off + n < c ∧ l = (b.cells.drop off).take n ∧ l.length = n ∧ VRL S l (conc S.w (S.e.loc i c).1 ((S.e.loc i c).2 + off) n) ∧
      ∀ p, p < n → ∃ v, S.w.cell? ⟨(S.e.loc i c).1, (S.e.loc i c).2 + off + p, none⟩ = some v := by
  unfold ASt.cellsAt at hc
  split at hc
  · rename_i b hb
    split at hc
    · rename_i hcond
      obtain ⟨hlive, hlt⟩ := live_of hcond
      rw [takeN_eq, dropN_eq] at hc
      split at hc
      · rename_i hn
        obtain rfl := Option.some.inj hc
        have hll : ((b.cells.drop off).take n).length = n := by rw [List.length_take]; omega
        have hcell : ∀ p, p < n → ∃ v, S.w.cell? ⟨(S.e.loc i c).1, (S.e.loc i c).2 + off + p, none⟩ = some v ∧ VR S (b.cells.getD (off + p) undef) v := fun p hp => by
          have := h.cell i b hb c hlive (off + p) (by omega)
          rwa [← Nat.add_assoc] at this
        refine ⟨b, hb, hlive, hlt, rfl, hll, ⟨by rw [hll, conc_length], fun p hp => ?_⟩, fun p hp => (hcell p hp).imp fun _ h => h.1⟩
        rw [hll] at hp
        obtain ⟨v, h1, h2⟩ := hcell p hp
        rw [conc_getD _ _ _ _ _ hp, h1, getD_drop_take _ _ _ _ hp]
        exact h2
      · cases hc
    · cases hc
  · cases hc

theorem room_lt {s : ASt} (_ : s.room = true) : 0 < 16000000 := by omega
theorem SR.fresh {base : Nat} {S : St} (h : SR base S) : S.s.blk? S.s.next = none ∧ S.s.map? S.s.next = none := by
  constructor
  · cases hb : S.s.blk? S.s.next with
    | none => rfl
    | some b => have := h.lt hb; omega
  · cases hb : S.s.map? S.s.next with
    | none => rfl
    | some b => have := h.mlt hb; omega
theorem SR.mp_lt {base : Nat} {S : St} (h : SR base S) {r : Nat} {es : List (Value × Value)} (hr : S.s.map? r = some es) : S.e.mp r < S.w.heap.size := by
  obtain ⟨_, es', clk, h1, _⟩ := h.map r es hr
  exact lt_of_cells h1

/-- A new world that is the old one with one more block (and perhaps some draws). -/
structure Pushed (w w' : World) (o : Obj) : Prop where
  heap : w'.heap = w.heap.push o
  os : w'.os = w.os
  tape : w'.tape = w.tape
  output : w'.output = w.output
theorem Pushed.old {w w' : World} {o : Obj} (h : Pushed w w' o) (k : Nat) (hk : k < w.heap.size) : w'.heap[k]? = w.heap[k]? := by
  rw [h.heap, Array.getElem?_push, if_neg (by omega)]
theorem Pushed.new {w w' : World} {o : Obj} (h : Pushed w w' o) : w'.heap[w.heap.size]? = some o := by
  rw [h.heap, Array.getElem?_push, if_pos rfl]
theorem Pushed.size {w w' : World} {o : Obj} (h : Pushed w w' o) : w'.heap.size = w.heap.size + 1 := by rw [h.heap]; simp
theorem Pushed.below {w w' : World} {o : Obj} {B : Nat} (h : Pushed w w' o) (hB : B ≤ w.heap.size) : Below B w w' :=
  ⟨h.os, h.tape, h.output, by rw [h.size]; omega, fun k hk => h.old k (by omega)⟩

/-- Where a new block may be laid: at a place that is free. -/
structure Spot (S : St) (id next : Nat) : Prop where
  free : S.s.heap.get id = none
  lt : id < next
  le : S.s.next ≤ next
  room : 0 ≤ 16000000
  known : id < S.s.next ∨ id + 1 = next
theorem Spot.blk {S : St} {id next : Nat} (h : Spot S id next) : S.s.blk? id = none := by simp only [ASt.blk?, h.free]
theorem Spot.map {S : St} {id next : Nat} (h : Spot S id next) : S.s.map? id = none := by simp only [ASt.map?, h.free]
theorem Spot.self {base : Nat} {S : St} (h : SR base S) (hr : S.s.room = true) : Spot S S.s.next (S.s.next + 1) := by
  have hlt := room_lt hr
  refine ⟨?_, by omega, by omega, by omega, .inr rfl⟩
  cases hg : S.s.heap.get S.s.next with
  | none => rfl
  | some o => have := h.bound _ _ hg; omega

/-- A new block. -/
def St.pushed (S : St) (id next : Nat) (b : Blk) (W : World) : St := ⟨⟨Tr.set (depth id) S.s.heap id (.blk b), next⟩, ⟨fun j c => if j = id then (S.w.heap.size, 0) else S.e.loc j c, S.e.mp⟩, W⟩
theorem Good.newBlk {base : Nat} {S : St} (h : SR base S) {id next : Nat} (hsp : Spot S id next) (cs : List Value) (esz : Nat) (arr : Array Value) (E : TypeId) (fr : Nat × Nat) (W : World)
    (hW : Pushed S.w W (.cells arr E fr)) (hfr : fr.1 = fr.2 ∨ arr.size ≤ fr.1) (hle : cs.length ≤ arr.size) (hv : ∀ p, p < cs.length → VR S (cs.getD p undef) (arr.toList.getD p undef)) :
    Good base S (S.pushed id next ⟨cs, 1, true, esz⟩ W) := by
  refine SR.change h id S.w.heap.size next ⟨cs, 1, true, esz⟩ _ W hsp.lt hsp.le hsp.room hsp.known (fun es he => by rw [hsp.map] at he; cases he) (Nat.le_refl _)
    (fun b hb => by rw [hsp.blk] at hb; cases hb) (fun j hj => by funext c; rw [if_neg hj]) (fun k _ hk => hW.old k hk)
    (fun j bj c _ hj hc => Nat.ne_of_lt (h.inb j bj hj c hc)) (fun r es he => Nat.ne_of_lt (h.mp_lt he)) (fun c _ => by simp only [if_true]; rw [hW.size]; omega) ?_ ?_ ?_ ?_
    (hW.below h.size) (by rw [hW.size]; omega)
  · intro c hc p hp
    simp only [if_true, Nat.zero_add]
    have hpl : p < cs.length := by have := hc.2; simp only at this; omega
    have hpa : p < arr.size := by omega
    refine ⟨arr.toList.getD p undef, ?_, hv p hpl⟩
    rw [cell_of_block W _ _ arr E fr hW.new]
    simp [List.getD_eq_getElem?_getD, hpa]
  · intro _ c _
    simp only [if_true]
    exact ⟨h.size, ⟨arr, E, fr, hW.new, hfr⟩, fun j bj _ hj c' hc' => Nat.ne_of_lt (h.inb j bj hj c' hc'), by intros; first | rfl | trivial⟩
  · intro j bj _ hj _ c' hc' c _
    simp only [if_true]
    exact fun e => absurd (h.inb j bj hj c' hc') (by omega)
  · intro arr E fr hk
    exact absurd (lt_of_cells hk) (by omega)

/-- References to a new block. -/
theorem St.pushed_blk {S : St} {id next : Nat} (hsp : Spot S id next) (b : Blk) (W : World) : (S.pushed id next b W).s.blk? id = some b := by
  simp only [St.pushed, ASt.blk?, Tr.get_set_self _ _ _ _ (deep (show 0 < 16000001 by have := hsp.lt; have := hsp.room; omega))]
theorem St.pushed_ref {S : St} {id next : Nat} (hsp : Spot S id next) (b : Blk) (W : World) (off c : Nat) (hc : c ≤ b.cells.length + 1) : RefOk (S.pushed id next b W) id off c ⟨S.w.heap.size, off, none⟩ :=
  ⟨b, St.pushed_blk hsp b W, hc, fun _ => by simp [St.pushed]⟩
theorem St.pushed_cap {S : St} {id next : Nat} (hsp : Spot S id next) (b : Blk) (W : World) (o c cap : Nat) (arr : Array Value) (E : TypeId) (fr : Nat × Nat) (hW : Pushed S.w W (.cells arr E fr)) (hcap : o + cap * b.esz ≤ arr.size) :
    CapOk (S.pushed id next b W) id c ⟨S.w.heap.size, o, none⟩ cap := by
  intro b' hb' _
  rw [St.pushed_blk hsp b W] at hb'
  obtain rfl := Option.some.inj hb'
  exact ⟨arr, E, fr, hW.new, hcap⟩

/-- A store. -/
theorem Good.store {base : Nat} {S : St} (h : SR base S) {i off c : Nat} {b : Blk} (hb : S.s.blk? i = some b) (ho : b.own = true) (hc : Live b c) (hcur : c = b.cells.length + 1) {vs vs' l : List Value}
    (hl : setAt b.cells off vs = some l) (hv : VRL S vs vs') (hne : vs ≠ []) :
    Good base S ⟨S.s.put i (.blk { b with cells := l, low := c }), S.e, setCells S.w (S.e.loc i c).1 ((S.e.loc i c).2 + off) vs'⟩ ∧
    ∃ (arr : Array Value) (E : TypeId) (fr : Nat × Nat), S.w.heap[(S.e.loc i c).1]? = some (.cells arr E fr) ∧ (fr.1 = fr.2 ∨ arr.size ≤ fr.1) ∧ (S.e.loc i c).2 + off + vs'.length ≤ arr.size := by
  obtain ⟨hll, hin, hget⟩ := setAt_spec _ _ _ _ hl
  have hin' : off + vs.length ≤ b.cells.length := hin.resolve_left hne
  have hvl : vs'.length = vs.length := hv.1.symm
  obtain ⟨ho1, ⟨arr, E, fr, ho2, ho3⟩, ho4, _⟩ := h.own i b hb ho c hc
  have hpos : 0 < vs.length := List.length_pos_iff.2 hne
  have hfit : (S.e.loc i c).2 + off + vs'.length ≤ arr.size := by
    obtain ⟨v, h1, _⟩ := h.cell i b hb c hc (off + vs.length - 1) (by omega)
    rw [cell_of_block _ _ _ _ _ _ ho2] at h1
    have := (Array.getElem?_eq_some_iff.1 h1).1
    omega
  obtain ⟨arr', ha1, ha2, ha3⟩ := setCells_block vs' S.w _ _ arr E fr ho2 hfit
  refine ⟨?_, arr, E, fr, ho2, ho3, hfit⟩
  have hlive' : ∀ c', Live { b with cells := l, low := c } c' → c' = c := fun c' hc' => by
    have h1 := hc'.1; have h2 := hc'.2; simp only [hll] at h1 h2; omega
  refine SR.change h i (S.e.loc i c).1 S.s.next { b with cells := l, low := c } S.e.loc _ (h.lt hb) (Nat.le_refl _) h.room (.inl (h.lt hb)) (fun es he => blk_not_map hb he) (by show 1 ≤ c; omega) ?_ (fun _ _ => rfl)
    (fun k hk _ => setCells_ne _ _ _ _ _ hk) (fun j bj c' hj hbj hc' e => hj (ho4 j bj hbj c' hc' e)) ?_ ?_ ?_ ?_ ?_ ?_ (setCells_below _ _ _ _ _ ho1) (by rw [setCells_size]; exact Nat.le_refl _)
  · intro b0 hb0
    rw [hb] at hb0; obtain rfl := Option.some.inj hb0
    exact ⟨by simp [hll], hc.1, rfl, fun _ _ _ => rfl⟩
  · intro r es he e
    obtain ⟨_, es', clk, h2, _⟩ := h.map r es he
    rw [e, ho2] at h2; cases h2
  · intro c' hc'; rw [hlive' c' hc', setCells_size]; exact h.inb i b hb c hc
  · intro c' hc' p hp
    obtain rfl := hlive' c' hc'
    simp only
    rw [cell_of_block _ _ _ _ _ _ ha1, ha3, hget p]
    by_cases hp1 : off ≤ p ∧ p < off + vs.length
    · rw [if_pos hp1, if_pos (by omega), show (S.e.loc i c').2 + p - ((S.e.loc i c').2 + off) = p - off by omega]
      exact ⟨_, rfl, hv.2 (p - off) (by omega)⟩
    · rw [if_neg hp1, if_neg (by omega), ← cell_of_block _ _ _ _ _ _ ho2]
      exact h.cell i b hb c' hc p hp
  · intro _ c' hc'
    obtain rfl := hlive' c' hc'
    exact ⟨ho1, ⟨arr', E, fr, ha1, by rw [ha2]; exact ho3⟩, fun j bj hj hbj c1 hc1 e => hj (ho4 j bj hbj c1 hc1 e), fun c1 hc1 _ => by rw [hlive' c1 hc1]⟩
  · intro j bj hj hbj hbo c1 hc1 c' hc' e
    obtain rfl := hlive' c' hc'
    exact hj (ho4 j bj hbj c1 hc1 e.symm)
  · intro arr0 E0 fr0 hk
    rw [ho2] at hk
    injection hk with hk; injection hk with e1 e2 e3
    subst e1; subst e2
    exact ⟨arr', fr, ha1, ha2⟩

end Go.Cl
