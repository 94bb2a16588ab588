/-
  The clean machine, part 2: how its states stand to the model's worlds, and what keeps that.
-/
import Derived.Test.YtbakljlaladpoaaCl1
import Derived.Below
import Derived.WalkKit
import Derived.Deep.QuietTactic
namespace Go.Cl
open Go.RowKit

/-! Trees. -/
theorem Tr.get_eq {α : Type} (t : Tr α) (i : Nat) : t.get i = match i with
    | 0 => t.val
    | k + 1 => match k % 2 with
      | 0 => t.left.get (k / 2)
      | _ + 1 => t.right.get (k / 2) := by
  cases t with
  | nil => cases i with
    | zero => rfl
    | succ k => simp only [Tr.get, Tr.left, Tr.right]; split <;> rfl
  | node v l r => cases i with
    | zero => rfl
    | succ k => rcases Nat.mod_two_eq_zero_or_one k with h | h <;> simp only [Tr.get, Tr.left, Tr.right, h]

theorem Tr.get_zero {α : Type} (t : Tr α) : t.get 0 = t.val := by rw [Tr.get_eq]
theorem Tr.get_succ {α : Type} (t : Tr α) (k : Nat) : t.get (k + 1) = match k % 2 with
      | 0 => t.left.get (k / 2)
      | _ + 1 => t.right.get (k / 2) := by rw [Tr.get_eq]

theorem Tr.get_set_self {α : Type} : ∀ (f : Nat) (t : Tr α) (i : Nat) (u : α), i + 1 < 2 ^ f → (Tr.set f t i u).get i = some u := by
  intro f
  induction f with
  | zero => intro t i u h; simp at h
  | succ f ih =>
    intro t i u h
    cases i with
    | zero => rfl
    | succ k =>
      have hk : k / 2 + 1 < 2 ^ f := by rw [Nat.pow_succ] at h; omega
      rw [Tr.get_succ]
      rcases Nat.mod_two_eq_zero_or_one k with hm | hm
      · simp only [Tr.set, hm, Tr.left]; exact ih _ _ _ hk
      · simp only [Tr.set, hm, Tr.right]; exact ih _ _ _ hk

theorem Tr.get_set_ne {α : Type} : ∀ (f : Nat) (t : Tr α) (i j : Nat) (u : α), i ≠ j → (Tr.set f t i u).get j = t.get j := by
  intro f
  induction f with
  | zero => intro t i j u h; rfl
  | succ f ih =>
    intro t i j u h
    cases i with
    | zero =>
      cases j with
      | zero => exact absurd rfl h
      | succ m => rw [Tr.get_succ, Tr.get_succ]; simp only [Tr.set, Tr.left, Tr.right]
    | succ k =>
      rcases Nat.mod_two_eq_zero_or_one k with hm | hm
      · simp only [Tr.set, hm]
        cases j with
        | zero => rw [Tr.get_zero, Tr.get_zero]; rfl
        | succ m =>
          rw [Tr.get_succ, Tr.get_succ]
          rcases Nat.mod_two_eq_zero_or_one m with hn | hn
          · simp only [hn, Tr.left]; exact ih _ _ _ _ (by omega)
          · simp only [hn, Tr.right]
      · simp only [Tr.set, hm]
        cases j with
        | zero => rw [Tr.get_zero, Tr.get_zero]; rfl
        | succ m =>
          rw [Tr.get_succ, Tr.get_succ]
          rcases Nat.mod_two_eq_zero_or_one m with hn | hn
          · simp only [hn, Tr.left]
          · simp only [hn, Tr.right]; exact ih _ _ _ _ (by omega)

theorem deep {i : Nat} (_ : 0 < 16000001) : i + 1 < 2 ^ depth i := by unfold depth; exact Nat.lt_log2_self

theorem ASt.blk?_put_self (s : ASt) (i : Nat) (b : Blk) (h : 0 < 16000001) : (s.put i (.blk b)).blk? i = some b := by
  simp only [ASt.blk?, ASt.put, Tr.get_set_self _ s.heap i _ (deep h)]
theorem ASt.get_put_ne (s : ASt) (i j : Nat) (o : AO) (h : i ≠ j) : (s.put i o).heap.get j = s.heap.get j := by
  simp only [ASt.put, Tr.get_set_ne _ s.heap i j o h]

/-! The relation. -/
structure Emb where
  loc : Nat → Nat → Nat × Nat
  mp : Nat → Nat
structure St where
  s : ASt
  e : Emb
  w : World

/-- A reference into block i, in version c, and an address. -/
def RefOk (S : St) (i off c : Nat) (a : Addr) : Prop :=
  ∃ b, S.s.blk? i = some b ∧ c ≤ b.cells.length + 1 ∧ (b.low ≤ c → a = ⟨(S.e.loc i c).1, (S.e.loc i c).2 + off, none⟩)
/-- So many elements lie from the address on. -/
def CapOk (S : St) (i c : Nat) (a : Addr) (cap : Nat) : Prop :=
  ∀ b, S.s.blk? i = some b → b.low ≤ c → ∃ (arr : Array Value) (E : TypeId) (fr : Nat × Nat), S.w.heap[a.block]? = some (.cells arr E fr) ∧ a.off + cap * b.esz ≤ arr.size

inductive VR (S : St) : Value → Value → Prop
  | bool (b : Bool) : VR S (.bool b) (.bool b)
  | int (k : IntKind) (n : Int) : VR S (.int k n) (.int k n)
  | string (x : ByteArray) : VR S (.string x) (.string x)
  | ptrNil : VR S (.pointer none) (.pointer none)
  | ptr (i off c : Nat) (a : Addr) (h : RefOk S i off c a) : VR S (.pointer (some ⟨i, off, some c⟩)) (.pointer (some a))
  | sliceNil : VR S (.slice none 0 0) (.slice none 0 0)
  | slice (i off len c : Nat) (a : Addr) (cap : Nat) (h0 : len ≤ cap) (hz : c = 0 → cap = 0) (h : 0 < cap → RefOk S i off c a ∧ CapOk S i c a cap) :
      VR S (.slice (some ⟨i, off, none⟩) len c) (.slice (some a) len cap)
  | mapNil : VR S (.map none) (.map none)
  | map (r : Nat) (h : ∃ es, S.s.map? r = some es) : VR S (.map (some r)) (.map (some (S.e.mp r)))
  | nilFunc : VR S .nilFunc .nilFunc
  | nilIface : VR S .nilIface .nilIface
  | func (g : FuncId) (as bs as' bs' : Array Value) (ha : as.toList.length = as'.toList.length) (hb : bs.toList.length = bs'.toList.length)
      (h1 : ∀ i, i < as.toList.length → VR S (as.toList.getD i undef) (as'.toList.getD i undef)) (h2 : ∀ i, i < bs.toList.length → VR S (bs.toList.getD i undef) (bs'.toList.getD i undef)) :
      VR S (.func (.func g) as bs) (.func (.func g) as' bs')
  | agg (cs cs' : Array Value) (h1 : cs.toList.length = cs'.toList.length) (h2 : ∀ i, i < cs.toList.length → VR S (cs.toList.getD i undef) (cs'.toList.getD i undef)) : VR S (.agg cs) (.agg cs')
  | unk (n : Int) : VR S (.chan none) (.int .u8 n)
  | raw (b o : Nat) : VR S (.pointer (some ⟨b, o, none⟩)) (.pointer (some ⟨b, o, none⟩))
  | iface (t : TypeId) (v v' : Value) (h : VR S v v') : VR S (.iface t v) (.iface t v')
  | tuple (cs cs' : Array Value) (h1 : cs.toList.length = cs'.toList.length) (h2 : ∀ i, i < cs.toList.length → VR S (cs.toList.getD i undef) (cs'.toList.getD i undef)) : VR S (.tuple cs) (.tuple cs')

def VRL (S : St) (l l' : List Value) : Prop := l.length = l'.length ∧ ∀ i, i < l.length → VR S (l.getD i undef) (l'.getD i undef)

theorem VR.undef' (S : St) : VR S undef undef := VR.tuple #[] #[] rfl (fun i h => by simp at h)

theorem VRL.nil {S : St} : VRL S [] [] := ⟨rfl, fun i h => by simp at h⟩
theorem VRL.cons {S : St} {v v' : Value} {l l' : List Value} (h : VR S v v') (hl : VRL S l l') : VRL S (v :: l) (v' :: l') := by
  refine ⟨by simp [hl.1], fun i hi => ?_⟩
  cases i with
  | zero => simpa using h
  | succ k => simpa using hl.2 k (by simpa using hi)
theorem VRL.cons_inv {S : St} {v : Value} {l l' : List Value} (h : VRL S (v :: l) l') : ∃ v' r', l' = v' :: r' ∧ VR S v v' ∧ VRL S l r' := by
  cases l' with
  | nil => have := h.1; simp at this
  | cons v' r' =>
    refine ⟨v', r', rfl, by simpa using h.2 0 (by simp), by simpa using h.1, fun i hi => by simpa using h.2 (i + 1) (by simpa using hi)⟩
theorem VRL.nil_inv {S : St} {l' : List Value} (h : VRL S [] l') : l' = [] := by
  have := h.1
  cases l' with
  | nil => rfl
  | cons _ _ => simp at this
theorem VRL.append {S : St} {l l' m m' : List Value} (h : VRL S l l') (hm : VRL S m m') : VRL S (l ++ m) (l' ++ m') := by
  induction l generalizing l' with
  | nil => rw [h.nil_inv]; exact hm
  | cons v l ih =>
    obtain ⟨v', r', rfl, h1, h2⟩ := h.cons_inv
    exact VRL.cons h1 (ih h2)
theorem VRL.toList {S : St} {cs cs' : Array Value} (h : VRL S cs.toList cs'.toList) : VR S (.agg cs) (.agg cs') := .agg _ _ h.1 h.2
theorem VRL.agg {S : St} {l l' : List Value} (h : VRL S l l') : VR S (.agg l.toArray) (.agg l'.toArray) := .agg _ _ (by simpa using h.1) (by simpa using h.2)
theorem VRL.tuple {S : St} {l l' : List Value} (h : VRL S l l') : VR S (.tuple l.toArray) (.tuple l'.toArray) := .tuple _ _ (by simpa using h.1) (by simpa using h.2)

/-! A later state knows what an earlier one knew. -/
structure Ext (S T : St) : Prop where
  blk : ∀ i b, S.s.blk? i = some b → ∃ b', T.s.blk? i = some b' ∧ b.cells.length ≤ b'.cells.length ∧ b.low ≤ b'.low ∧ b'.esz = b.esz ∧ ∀ c, c ≤ b.cells.length + 1 → b'.low ≤ c → T.e.loc i c = S.e.loc i c
  map : ∀ r es, S.s.map? r = some es → (∃ es', T.s.map? r = some es') ∧ T.e.mp r = S.e.mp r
  arr : ∀ (k : Nat) (arr : Array Value) (E : TypeId) (fr : Nat × Nat), S.w.heap[k]? = some (.cells arr E fr) → ∃ (arr' : Array Value) (fr' : Nat × Nat), T.w.heap[k]? = some (.cells arr' E fr') ∧ arr'.size = arr.size

theorem Ext.refl (S : St) : Ext S S :=
  ⟨fun _ b h => ⟨b, h, Nat.le_refl _, Nat.le_refl _, rfl, fun _ _ _ => rfl⟩, fun _ es h => ⟨⟨es, h⟩, rfl⟩, fun _ arr _ fr h => ⟨arr, fr, h, rfl⟩⟩
theorem Ext.trans {S T U : St} (h : Ext S T) (k : Ext T U) : Ext S U := by
  refine ⟨fun i b hb => ?_, fun r es hr => ?_, fun n arr E fr hn => ?_⟩
  · obtain ⟨b1, h1, h2, h3, h4, h5⟩ := h.blk i b hb
    obtain ⟨b2, k1, k2, k3, k4, k5⟩ := k.blk i b1 h1
    exact ⟨b2, k1, by omega, by omega, by rw [k4, h4], fun c hc hl => (k5 c (by omega) hl).trans (h5 c hc (by omega))⟩
  · obtain ⟨⟨es1, h1⟩, h2⟩ := h.map r es hr
    obtain ⟨h3, h4⟩ := k.map r es1 h1
    exact ⟨h3, h4.trans h2⟩
  · obtain ⟨a1, f1, h1, h2⟩ := h.arr n arr E fr hn
    obtain ⟨a2, f2, k1, k2⟩ := k.arr n a1 E f1 h1
    exact ⟨a2, f2, k1, k2.trans h2⟩

theorem RefOk.mono {S T : St} (h : Ext S T) {i off c : Nat} {a : Addr} (hr : RefOk S i off c a) : RefOk T i off c a := by
  obtain ⟨b, hb, hc, hl⟩ := hr
  obtain ⟨b', h1, h2, h3, _, h5⟩ := h.blk i b hb
  exact ⟨b', h1, by omega, fun hlow => by rw [h5 c hc hlow]; exact hl (by omega)⟩
theorem CapOk.mono {S T : St} (h : Ext S T) {i c : Nat} {a : Addr} {cap : Nat} (hs : ∃ b, S.s.blk? i = some b) (hr : CapOk S i c a cap) : CapOk T i c a cap := by
  intro b' hb' hl'
  obtain ⟨b, hb⟩ := hs
  obtain ⟨b1, h1, h2, h3, h4, _⟩ := h.blk i b hb
  rw [hb'] at h1
  obtain rfl := Option.some.inj h1
  obtain ⟨arr, E, fr, ha, hsz⟩ := hr b hb (by omega)
  obtain ⟨arr', fr', ha', hsz'⟩ := h.arr _ _ _ _ ha
  exact ⟨arr', E, fr', ha', by rw [h4, hsz']; exact hsz⟩

theorem VR.mono {S T : St} (h : Ext S T) {v v' : Value} (hv : VR S v v') : VR T v v' := by
  induction hv with
  | bool b => exact .bool b
  | int k n => exact .int k n
  | string x => exact .string x
  | ptrNil => exact .ptrNil
  | ptr i off c a hr => exact .ptr i off c a (hr.mono h)
  | sliceNil => exact .sliceNil
  | slice i off len c a cap h0 hz hr =>
    refine .slice i off len c a cap h0 hz fun hc => ?_
    obtain ⟨hr1, hr2⟩ := hr hc
    exact ⟨hr1.mono h, hr2.mono h (by obtain ⟨b, hb, _⟩ := hr1; exact ⟨b, hb⟩)⟩
  | mapNil => exact .mapNil
  | map r hr =>
    obtain ⟨es, hes⟩ := hr
    obtain ⟨h1, h2⟩ := h.map r es hes
    rw [← h2]
    exact .map r h1
  | nilFunc => exact .nilFunc
  | nilIface => exact .nilIface
  | func g as bs as' bs' ha hb _ _ ih1 ih2 => exact .func g as bs as' bs' ha hb ih1 ih2
  | agg cs cs' h1 _ ih => exact .agg cs cs' h1 ih
  | unk n => exact .unk n
  | raw b o => exact .raw b o
  | iface t v v' _ ih => exact .iface t v v' ih
  | tuple cs cs' h1 _ ih => exact .tuple cs cs' h1 ih
theorem VRL.mono {S T : St} (h : Ext S T) {l l' : List Value} (hv : VRL S l l') : VRL T l l' := ⟨hv.1, fun i hi => (hv.2 i hi).mono h⟩

/-- The entries of a map. -/
def ER (S : St) : List (Value × Value) → List MapEntry → Prop
  | [], [] => True
  | (k, v) :: r, e :: r' => e.key = k ∧ VR S v e.val ∧ ER S r r'
  | _, _ => False
theorem ER.mono {S T : St} (h : Ext S T) : ∀ {l : List (Value × Value)} {l' : List MapEntry}, ER S l l' → ER T l l'
  | [], [], _ => trivial
  | (_, _) :: _, _ :: _, hv => ⟨hv.1, hv.2.1.mono h, ER.mono h hv.2.2⟩
  | [], _ :: _, hv => hv
  | _ :: _, [], hv => hv

/-- Valid versions. -/
def Live (b : Blk) (c : Nat) : Prop := b.low ≤ c ∧ c ≤ b.cells.length + 1

structure SR (base : Nat) (S : St) : Prop where
  room : 0 ≤ 16000000
  bound : ∀ i o, S.s.heap.get i = some o → i < S.s.next
  low : ∀ i b, S.s.blk? i = some b → 1 ≤ b.low
  cell : ∀ i b, S.s.blk? i = some b → ∀ c, Live b c → ∀ p, p + 1 < c → ∃ v, S.w.cell? ⟨(S.e.loc i c).1, (S.e.loc i c).2 + p, none⟩ = some v ∧ VR S (b.cells.getD p undef) v
  own : ∀ i b, S.s.blk? i = some b → b.own = true → ∀ c, Live b c →
    base ≤ (S.e.loc i c).1 ∧ (∃ (arr : Array Value) (E : TypeId) (fr : Nat × Nat), S.w.heap[(S.e.loc i c).1]? = some (.cells arr E fr) ∧ (fr.1 = fr.2 ∨ arr.size ≤ fr.1)) ∧
    (∀ j b', S.s.blk? j = some b' → ∀ c', Live b' c' → (S.e.loc j c').1 = (S.e.loc i c).1 → j = i) ∧
    ∀ c', Live b c' → (S.e.loc i c').1 = (S.e.loc i c).1 → S.e.loc i c' = S.e.loc i c
  map : ∀ r es, S.s.map? r = some es → base ≤ S.e.mp r ∧ ∃ (es' : Array MapEntry) (clk : Nat), S.w.heap[S.e.mp r]? = some (.map es' clk) ∧ ER S es es'.toList
  mapInj : ∀ r r' es es', S.s.map? r = some es → S.s.map? r' = some es' → S.e.mp r = S.e.mp r' → r = r'
  size : base ≤ S.w.heap.size
  inb : ∀ i b, S.s.blk? i = some b → ∀ c, Live b c → (S.e.loc i c).1 < S.w.heap.size

/-- The state after a step. -/
structure Good (base : Nat) (S T : St) : Prop where
  sr : SR base T
  ext : Ext S T
  below : Below base S.w T.w

theorem Good.refl {base : Nat} {S : St} (h : SR base S) : Good base S S := ⟨h, Ext.refl S, Below.refl _ _⟩
theorem Good.trans {base : Nat} {S T U : St} (h : Good base S T) (k : Good base T U) : Good base S U := ⟨k.sr, h.ext.trans k.ext, h.below.trans k.below⟩

theorem SR.lt {base : Nat} {S : St} (h : SR base S) {i : Nat} {b : Blk} (hb : S.s.blk? i = some b) : i < S.s.next := by
  unfold ASt.blk? at hb
  split at hb
  · exact h.bound i _ ‹_›
  · cases hb
theorem SR.mlt {base : Nat} {S : St} (h : SR base S) {i : Nat} {b : List (Value × Value)} (hb : S.s.map? i = some b) : i < S.s.next := by
  unfold ASt.map? at hb
  split at hb
  · exact h.bound i _ ‹_›
  · cases hb
theorem blk_not_map {s : ASt} {i : Nat} {b : Blk} {es : List (Value × Value)} (hb : s.blk? i = some b) (he : s.map? i = some es) : False := by
  unfold ASt.blk? at hb
  unfold ASt.map? at he
  split at hb
  · rename_i h; rw [h] at he; cases he
  · cases hb

/-! The general step: one block (new, or there before) is laid anew; of the world one block has turned at most. -/
theorem SR.change {base : Nat} {S : St} (h : SR base S) (i L next : Nat) (b' : Blk) (loc' : Nat → Nat → Nat × Nat) (w' : World)
    (hi : i < next) (hn : S.s.next ≤ next) (hr : 0 ≤ 16000000) (hi2 : i < S.s.next ∨ i + 1 = next)
    (hmap : ∀ es, S.s.map? i ≠ some es)
    (hlow1 : 1 ≤ b'.low)
    (hold : ∀ b, S.s.blk? i = some b → b.cells.length ≤ b'.cells.length ∧ b.low ≤ b'.low ∧ b'.esz = b.esz ∧ ∀ c, c ≤ b.cells.length + 1 → b'.low ≤ c → loc' i c = S.e.loc i c)
    (hloc : ∀ j, j ≠ i → loc' j = S.e.loc j)
    (hw : ∀ k, k ≠ L → k < S.w.heap.size → w'.heap[k]? = S.w.heap[k]?)
    (hL : ∀ j bj c, j ≠ i → S.s.blk? j = some bj → Live bj c → (S.e.loc j c).1 ≠ L)
    (hLm : ∀ r es, S.s.map? r = some es → S.e.mp r ≠ L)
    (hinb : ∀ c, Live b' c → (loc' i c).1 < w'.heap.size)
    (hcell : ∀ c, Live b' c → ∀ p, p + 1 < c → ∃ v, w'.cell? ⟨(loc' i c).1, (loc' i c).2 + p, none⟩ = some v ∧ VR S (b'.cells.getD p undef) v)
    (hown : b'.own = true → ∀ c, Live b' c → base ≤ (loc' i c).1 ∧ (∃ (arr : Array Value) (E : TypeId) (fr : Nat × Nat), w'.heap[(loc' i c).1]? = some (.cells arr E fr) ∧ (fr.1 = fr.2 ∨ arr.size ≤ fr.1)) ∧
      (∀ j bj, j ≠ i → S.s.blk? j = some bj → ∀ c', Live bj c' → (S.e.loc j c').1 ≠ (loc' i c).1) ∧
      ∀ c', Live b' c' → (loc' i c').1 = (loc' i c).1 → loc' i c' = loc' i c)
    (hoth : ∀ j bj, j ≠ i → S.s.blk? j = some bj → bj.own = true → ∀ c', Live bj c' → ∀ c, Live b' c → (loc' i c).1 ≠ (S.e.loc j c').1)
    (harr : ∀ (arr : Array Value) (E : TypeId) (fr : Nat × Nat), S.w.heap[L]? = some (.cells arr E fr) → ∃ (arr' : Array Value) (fr' : Nat × Nat), w'.heap[L]? = some (.cells arr' E fr') ∧ arr'.size = arr.size)
    (hbelow : Below base S.w w') (hsz : S.w.heap.size ≤ w'.heap.size) :
    Good base S ⟨⟨Tr.set (depth i) S.s.heap i (.blk b'), next⟩, ⟨loc', S.e.mp⟩, w'⟩ := by
  have hget : ∀ j, j ≠ i → (Tr.set (depth i) S.s.heap i (.blk b')).get j = S.s.heap.get j := fun j hj => Tr.get_set_ne _ _ _ _ _ (Ne.symm hj)
  have hgeti : (Tr.set (depth i) S.s.heap i (.blk b')).get i = some (.blk b') := Tr.get_set_self _ _ _ _ (deep (by omega))
  have hself : (⟨Tr.set (depth i) S.s.heap i (.blk b'), next⟩ : ASt).blk? i = some b' := by simp only [ASt.blk?, hgeti]
  have hblk : ∀ j, j ≠ i → (⟨Tr.set (depth i) S.s.heap i (.blk b'), next⟩ : ASt).blk? j = S.s.blk? j := fun j hj => by simp only [ASt.blk?, hget j hj]
  have hmp : ∀ j, j ≠ i → (⟨Tr.set (depth i) S.s.heap i (.blk b'), next⟩ : ASt).map? j = S.s.map? j := fun j hj => by simp only [ASt.map?, hget j hj]
  have hmi : (⟨Tr.set (depth i) S.s.heap i (.blk b'), next⟩ : ASt).map? i = none := by simp only [ASt.map?, hgeti]
  have harr' : ∀ (k : Nat) (arr : Array Value) (E : TypeId) (fr : Nat × Nat), S.w.heap[k]? = some (.cells arr E fr) → ∃ (arr' : Array Value) (fr' : Nat × Nat), w'.heap[k]? = some (.cells arr' E fr') ∧ arr'.size = arr.size := by
    intro k arr E fr hk
    by_cases hkL : k = L
    · subst hkL; exact harr arr E fr hk
    · have hlt : k < S.w.heap.size := by
        rcases Nat.lt_or_ge k S.w.heap.size with h' | h'
        · exact h'
        · rw [Array.getElem?_eq_none h'] at hk; cases hk
      exact ⟨arr, fr, by rw [hw k hkL hlt]; exact hk, rfl⟩
  have hext : Ext S ⟨⟨Tr.set (depth i) S.s.heap i (.blk b'), next⟩, ⟨loc', S.e.mp⟩, w'⟩ := by
    refine ⟨fun j b hb => ?_, fun r es he => ?_, harr'⟩
    · by_cases hj : j = i
      · subst hj
        obtain ⟨h1, h2, h3, h4⟩ := hold b hb
        exact ⟨b', hself, h1, h2, h3, h4⟩
      · exact ⟨b, by rw [← hb]; exact hblk j hj, Nat.le_refl _, Nat.le_refl _, rfl, fun c _ _ => by show loc' j c = _; rw [hloc j hj]⟩
    · have hri : r ≠ i := fun e => hmap es (e ▸ he)
      exact ⟨⟨es, by rw [← he]; exact hmp r hri⟩, rfl⟩
  refine ⟨⟨hr, ?_, ?_, ?_, ?_, ?_, ?_, Nat.le_trans h.size hbelow.size, ?_⟩, hext, hbelow⟩
  · intro j o hj
    by_cases hji : j = i
    · show j < next; omega
    · have hj' : (Tr.set (depth i) S.s.heap i (.blk b')).get j = some o := hj
      rw [hget j hji] at hj'
      have := h.bound j o hj'
      show j < next; omega
  · intro j b hb
    by_cases hji : j = i
    · subst hji; rw [hself] at hb; obtain rfl := Option.some.inj hb; exact hlow1
    · rw [hblk j hji] at hb; exact h.low j b hb
  · intro j b hb c hc p hp
    by_cases hji : j = i
    · subst hji
      rw [hself] at hb; obtain rfl := Option.some.inj hb
      obtain ⟨v, h1, h2⟩ := hcell c hc p hp
      exact ⟨v, h1, h2.mono hext⟩
    · rw [hblk j hji] at hb
      obtain ⟨v, h1, h2⟩ := h.cell j b hb c hc p hp
      refine ⟨v, ?_, h2.mono hext⟩
      show w'.cell? ⟨(loc' j c).1, (loc' j c).2 + p, none⟩ = some v
      rw [hloc j hji, ← h1]
      exact World.cell?_of_block (hw _ (hL j b c hji hb hc) (h.inb j b hb c hc))
  · intro j b hb hbo c hc
    by_cases hji : j = i
    · subst hji
      rw [hself] at hb; obtain rfl := Option.some.inj hb
      obtain ⟨h1, h2, h3, h5⟩ := hown hbo c hc
      refine ⟨h1, h2, fun k bk hk c' hc' hEq => ?_, h5⟩
      by_cases hkj : k = j
      · exact hkj
      · rw [hblk k hkj] at hk
        exact absurd (by have : (loc' k c').1 = (loc' j c).1 := hEq; rwa [hloc k hkj] at this) (h3 k bk hkj hk c' hc')
    · rw [hblk j hji] at hb
      obtain ⟨h1, ⟨arr, E, fr, h2, h2'⟩, h3, h5⟩ := h.own j b hb hbo c hc
      have hne := hL j b c hji hb hc
      have hlt : (S.e.loc j c).1 < S.w.heap.size := by
        rcases Nat.lt_or_ge (S.e.loc j c).1 S.w.heap.size with h' | h'
        · exact h'
        · rw [Array.getElem?_eq_none h'] at h2; cases h2
      refine ⟨by show base ≤ (loc' j c).1; rw [hloc j hji]; exact h1, ⟨arr, E, fr, ?_, h2'⟩, fun k bk hk c' hc' hEq => ?_, by show ∀ c', Live b c' → (loc' j c').1 = (loc' j c).1 → loc' j c' = loc' j c; rw [hloc j hji]; exact h5⟩
      · show w'.heap[(loc' j c).1]? = _
        rw [hloc j hji, hw _ hne hlt]; exact h2
      · have hEq' : (loc' k c').1 = (loc' j c).1 := hEq
        rw [hloc j hji] at hEq'
        by_cases hki : k = i
        · subst hki
          rw [hself] at hk; obtain rfl := Option.some.inj hk
          exact absurd hEq' (hoth j b hji hb hbo c hc c' hc')
        · rw [hblk k hki] at hk
          rw [hloc k hki] at hEq'
          exact h3 k bk hk c' hc' hEq'
  · intro r es he
    have hri : r ≠ i := fun e => by subst e; rw [hmi] at he; cases he
    rw [hmp r hri] at he
    obtain ⟨h1, es', clk, h2, h3⟩ := h.map r es he
    have hlt : S.e.mp r < S.w.heap.size := by
      rcases Nat.lt_or_ge (S.e.mp r) S.w.heap.size with h' | h'
      · exact h'
      · rw [Array.getElem?_eq_none h'] at h2; cases h2
    exact ⟨h1, es', clk, by show w'.heap[S.e.mp r]? = _; rw [hw _ (hLm r es he) hlt]; exact h2, h3.mono hext⟩
  · intro r r' es es' he he' hEq
    have hri : r ≠ i := fun e => by subst e; rw [hmi] at he; cases he
    have hri' : r' ≠ i := fun e => by subst e; rw [hmi] at he'; cases he'
    rw [hmp r hri] at he
    rw [hmp r' hri'] at he'
    exact h.mapInj r r' es es' he he' hEq
  · intro j b hb c hc
    by_cases hji : j = i
    · subst hji
      rw [hself] at hb; obtain rfl := Option.some.inj hb
      exact hinb c hc
    · rw [hblk j hji] at hb
      show (loc' j c).1 < w'.heap.size
      rw [hloc j hji]
      exact Nat.lt_of_lt_of_le (h.inb j b hb c hc) hsz

end Go.Cl
