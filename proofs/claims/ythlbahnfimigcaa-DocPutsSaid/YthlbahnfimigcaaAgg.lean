/-
 The clean machine: structs: stored whole, or a part of them, behind a pointer or in a slice of one's own; new ones in a statement whose order is open.
-/
import Derived.Test.YthlbahnfimigcaaLooseB
namespace Go.Cl
theorem Thing.ofPut {s s' : ASt} {i j : Nat} {cs : List Value} (h : Thing s i cs) (h1 : s'.next = s.next) (h2 : ∀ q, q ≠ j -> s'.heap.get q = s.heap.get q) (hij : i ≠ j) : Thing s' i cs :=
 h.turns (Turns.ofPut (o := 0) (c := none) h1 h2) (fun e => by have e : some j = some i := e; injection e with e; exact hij e.symm)
theorem Turns.put {v : Value} {s s' s'' : ASt} {j : Nat} (h : Turns v s s') (hn : s.next ≤ j) (h1 : s''.next = s'.next) (h2 : ∀ q, q ≠ j -> s''.heap.get q = s'.heap.get q) : Turns v s s'' :=
 ⟨by have := h.next; omega, fun q hq hne => (h2 q (by omega)).trans (h.get q hq hne)⟩
def over (l : List Value) (off : Nat) (vs : List Value) : List Value := l.take off ++ vs ++ l.drop (off + vs.length)
theorem over_length {l : List Value} {off : Nat} {vs : List Value} (h : off + vs.length ≤ l.length) : (over l off vs).length = l.length := by
 unfold over; simp; omega
theorem over_all {l vs : List Value} (h : vs.length = l.length) : over l 0 vs = vs := by
 unfold over
 rw [List.take_zero, List.nil_append, Nat.zero_add, h, List.drop_length, List.append_nil]
theorem blkStore {P : Program} {e : TypeId} {s : ASt} {i : Nat} {l : List Value} {low z m : Nat} (hb : s.blk? i = some ⟨l, low, true, z⟩) (hl : low ≤ l.length + 1) {off c : Nat} (hc : c = l.length + 1) {v : Value} {vs : List Value} (hv : v.cells.toList = vs) (hm : vs.length = m) (hm0 : 0 < m) (hsz : sizeB P e = some m) (ho : off + m ≤ l.length) (hok : vs.all okCell = true) :
  storeA P s e (.pointer (some ⟨i, off, some c⟩)) v = some (s.put i (.blk ⟨over l off vs, l.length + 1, true, z⟩)) := by
 subst hc
 obtain ⟨k, rfl⟩ : ∃ k, m = k + 1 := ⟨m - 1, by omega⟩
 obtain ⟨a, w, rfl⟩ : ∃ a w, vs = a :: w := by
  cases vs with
  | nil => simp at hm
  | cons a w => exact ⟨a, w, rfl⟩
 unfold storeA
 have hbeq : Nat.beq (a :: w).length (k + 1) = true := by rw [Nat.beq_eq]; exact hm
 simp only [hsz, hv, hbeq, if_true]
 unfold ASt.storeAt
 have hset : setAt l off (a :: w) = some (over l off (a :: w)) := setAt_eq _ _ _ (by omega)
 have hcond : (true && Nat.ble low (l.length + 1) && Nat.beq (l.length + 1) (l.length + 1) && (a :: w).all okCell) = true := by
  simp only [hok, Bool.and_true, Bool.true_and, Bool.and_eq_true, Nat.ble_eq, Nat.beq_eq]; exact ⟨hl, trivial⟩
 simp only [hb, hcond, if_true, hset]
theorem Thing.storeN {P : Program} {e : TypeId} {s : ASt} {i : Nat} {cs : List Value} (h : Thing s i cs) {m off c : Nat} (hsz : sizeB P e = some m) (hm0 : 0 < m) (hc : c = cs.length + 1) {v : Value} {vs : List Value} (hv : v.cells.toList = vs) (hm : vs.length = m) (ho : off + m ≤ cs.length) (hok : vs.all okCell = true) :
  ∃ s', storeA P s e (.pointer (some ⟨i, off, some c⟩)) v = some s' ∧ Thing s' i (over cs off vs) ∧ (s'.next = s.next ∧ ∀ j, j ≠ i -> s'.heap.get j = s.heap.get j) := by
 obtain ⟨low, z, h1, h2⟩ := h.blk
 refine ⟨_, blkStore h1 h2 hc hv hm hm0 hsz ho hok, ⟨h.lt, cs.length + 1, z, ASt.blk?_put_self _ _ _ (by omega), by rw [over_length (by omega)]; omega⟩, rfl, fun j hj => ASt.get_put_ne _ _ _ _ (Ne.symm hj)⟩
theorem wstep_storeN {P : Program} {lib : Prims} {all r : List Oper} {f : AFr} {s : ASt} {d : Option Tmp} {Q : AFr -> ASt -> Prop} {e : TypeId} {m : Nat} (hsz : sizeB P e = some m) (hm0 : 0 < m) {i : Nat} {cs : List Value} (h : Thing s i cs) {off c : Nat} (hc : c = cs.length + 1) {v : Value} {vs : List Value} (hv : v.cells.toList = vs) (hm : vs.length = m) (ho : off + m ≤ cs.length) (hok : vs.all okCell = true)
  (K : ∀ s', Thing s' i (over cs off vs) -> s'.next = s.next -> (∀ j, j ≠ i -> s'.heap.get j = s.heap.get j) -> wstep P lib all r f s d Q (some (.val undef s'))) : wstep P lib all r f s d Q (uOf (storeA P s e (.pointer (some ⟨i, off, some c⟩)) v)) := by
 obtain ⟨s', h1, h2, h3, h4⟩ := h.storeN hsz hm0 hc hv hm ho hok
 rw [h1, uOf_some]
 exact K s' h2 h3 h4
theorem wstep_storeAll {P : Program} {lib : Prims} {all r : List Oper} {f : AFr} {s : ASt} {d : Option Tmp} {Q : AFr -> ASt -> Prop} {e : TypeId} {m : Nat} (hsz : sizeB P e = some m) (hm0 : 0 < m) {i : Nat} {cs : List Value} (h : Thing s i cs) (hcs : cs.length = m) {c : Nat} (hc : c = m + 1) {vs : Array Value} (hm : vs.toList.length = m) (hok : vs.toList.all okCell = true)
  (K : ∀ s', Thing s' i vs.toList -> s'.next = s.next -> (∀ j, j ≠ i -> s'.heap.get j = s.heap.get j) -> wstep P lib all r f s d Q (some (.val undef s'))) : wstep P lib all r f s d Q (uOf (storeA P s e (.pointer (some ⟨i, 0, some c⟩)) (.agg vs))) := by
 refine wstep_storeN hsz hm0 h (by omega) (v := .agg vs) (vs := vs.toList) rfl hm (by omega) hok ?_
 rw [over_all (by omega)]
 exact K
theorem resultsA_cell (P : Program) (f : AFr) (s : ASt) (t : Tmp) (ty : TypeId) (r : List ResultVar) : resultsA P f s (.cell t ty :: r) = if t < f.n then (match loadA P s ty (f.get t), resultsA P f s r with
  | some v, some l => some (v :: l)
  | _, _ => none) else none := by
 by_cases h : t < f.n
 ·have hb : Nat.blt t f.n = true := by simpa [Nat.blt_eq] using h
  rw [if_pos h]
  conv => lhs; rw [resultsA]
  simp only [hb, if_true]
  rfl
 ·have hb : Nat.blt t f.n = false := by rw [← Bool.not_eq_true, Nat.blt_eq]; exact h
  rw [if_neg h]
  conv => lhs; rw [resultsA]
  simp [hb]
theorem buildAgg1 {P : Program} {s : ASt} {t e : TypeId} {z : Nat} {zv : Value} {cs : Array Value} (hu : P.underlying t = some (.slice e)) (hsz : sizeB P e = some z) (hz : zeroB P e = some zv) (hpl : plainV zv = true) (hzl : Nat.beq zv.cells.toList.length z = true) (hl : cs.toList.length = z) (hz6 : z ≤ 65536) : buildSliceA P s t 1 [(0, .agg cs)] = newSlice s cs.toList 1 z := by
 unfold buildSliceA; rw [hu]
 have hzl' : zv.cells.toList.length = z := by simpa [Nat.beq_eq] using hzl
 have hr : repeatL zv.cells.toList 1 = zv.cells.toList := by simp [repeatL]
 have hset : setAt zv.cells.toList 0 cs.toList = some cs.toList := by
  rw [setAt_eq _ _ _ (by omega)]
  rw [List.take_zero, List.nil_append, Nat.zero_add, List.drop_of_length_le (by omega), List.append_nil]
 have hc : (Nat.ble (1 * z) 65536 && plainV zv && Nat.beq zv.cells.toList.length z) = true := by rw [hpl, hzl]; simp [Nat.ble_eq]; exact hz6
 simp only [hsz, hz, hc, hr, fillA, cells_agg, Nat.zero_mul, hset, if_true]
 simp [hzl', hl]
namespace LB
section
variable {P : Program} {lib : Prims} {A : Nat -> Bool} {g : Nat} {all r : List Oper} {id : Nat} {f : AFr} {T : ASt} {d : Option Tmp} {Q : AFr -> ASt -> Prop}
theorem smake_newPtr {cs : List Value} {z : Nat} (hid : id < T.next)
  (K : ∀ T', Thing T' id cs -> T'.next = T.next -> (∀ j, j ≠ id -> T'.heap.get j = T.heap.get j) -> scall P lib A g all r (id + 1) f d Q (.pointer (some ⟨id, 0, some (cs.length + 1)⟩)) T') : smake P lib A g all r id f T d Q (valloc id (pOf (newPtr ⟨.nil, id⟩ cs z))) := by
 have e : valloc id (pOf (newPtr ⟨.nil, id⟩ cs z)) = some (.pointer (some ⟨id, 0, some (cs.length + 1)⟩), ⟨cs, 1, true, z⟩) := by
  have : newPtr ⟨.nil, id⟩ cs z = some (.pointer (some ⟨id, 0, some (cs.length + 1)⟩), (⟨.nil, id⟩ : ASt).new (.blk ⟨cs, 1, true, z⟩)) := by simp [newPtr, ASt.room]
  rw [this, pOf_some]
  have hb : ((⟨.nil, id⟩ : ASt).new (.blk ⟨cs, 1, true, z⟩)).blk? id = some ⟨cs, 1, true, z⟩ := blk_new ⟨.nil, id⟩ _
  simp only [valloc, hb]
 rw [e, smake_eq]
 exact K _ ⟨by simpa [ASt.put] using hid, 1, z, ASt.blk?_put_self _ _ _ (by omega), by omega⟩ rfl (fun j hj => ASt.get_put_ne _ _ _ _ (Ne.symm hj))
theorem sstep_storeN {e : TypeId} {m : Nat} (hsz : sizeB P e = some m) (hm0 : 0 < m) {i : Nat} {cs : List Value} (h : Thing T i cs) {off c : Nat} (hc : c = cs.length + 1) {v : Value} {vs : List Value} (hv : v.cells.toList = vs) (hm : vs.length = m) (ho : off + m ≤ cs.length) (hok : vs.all okCell = true) (hA : g ≠ 0 -> A i = false)
  (K : ∀ T', Thing T' i (over cs off vs) -> T'.next = T.next -> (∀ j, j ≠ i -> T'.heap.get j = T.heap.get j) -> scall P lib A (g - 1) all r id f d Q undef T') : sstep P lib A g all r id f d T Q (uOf (storeA P T e (.pointer (some ⟨i, off, some c⟩)) v)) := by
 obtain ⟨s', h1, h2, h3, h4⟩ := h.storeN hsz hm0 hc hv hm ho hok
 rw [h1, uOf_some, sstep_val]
 exact ⟨fun hg => ⟨by omega, fun j hj => h4 j (fun e => by have := hA hg; rw [e, this] at hj; cases hj)⟩, K s' h2 h3 h4⟩
theorem sstep_storeAll {e : TypeId} {m : Nat} (hsz : sizeB P e = some m) (hm0 : 0 < m) {i : Nat} {cs : List Value} (h : Thing T i cs) (hcs : cs.length = m) {c : Nat} (hc : c = m + 1) {vs : Array Value} (hm : vs.toList.length = m) (hok : vs.toList.all okCell = true) (hA : g ≠ 0 -> A i = false)
  (K : ∀ T', Thing T' i vs.toList -> T'.next = T.next -> (∀ j, j ≠ i -> T'.heap.get j = T.heap.get j) -> scall P lib A (g - 1) all r id f d Q undef T') : sstep P lib A g all r id f d T Q (uOf (storeA P T e (.pointer (some ⟨i, 0, some c⟩)) (.agg vs))) := by
 refine sstep_storeN hsz hm0 h (by omega) (v := .agg vs) (vs := vs.toList) rfl hm (by omega) hok hA ?_
 rw [over_all (by omega)]
 exact K
end
end LB
end Go.Cl