/-
  The clean machine, part 16: a statement whose order is open: every order comes to what the trial says.
-/
import Derived.Test.YtbakljlaladpoaaCl15
namespace Go.Cl
open Go.RowKit

abbrev Same (s t : ASt) : Prop := Adds s t (fun _ => none)
theorem Same.refl (s : ASt) : Same s s := ⟨rfl, (fun _ _ h => by cases h), fun _ => rfl⟩
theorem SR.wf {base : Nat} {S : St} (h : SR base S) : WF S.s := ⟨h.room, h.bound⟩
theorem Same.wf {s t : ASt} (h : Same s t) (hw : WF t) : WF s := ⟨hw.room, fun j o hj => by rw [← h.next]; exact hw.bound j o (by rw [h.get j]; exact hj)⟩

/-- A call by the machine is a call by the model, or comes at once to its value there. 'Pre': what is known of the world below the base. -/
def PrimOk (P : Program) (Pre : Nat → World → Prop) (g : FuncId) (p : Prim) : Prop :=
  ∀ (base : Nat) (S : St) (s : ASt) (args : List Value) (v : Value) (s' : ASt), Same s S.s → SR base S → Pre base S.w → p args s = some (v, s') → ∀ args' : Array Value, VRL S args args'.toList →
    ((∀ w, (callFunc g args').run P w = .ok (.enter g args') w) ∧ Calls P g args' S.w fun e w' => ∃ T v', Same s' T.s ∧ T.w = w' ∧ e = .returned v' ∧ VR T v v' ∧ Good base S T) ∨
    ∃ T v', (callFunc g args').run P S.w = .ok (.value v') T.w ∧ Same s' T.s ∧ VR T v v' ∧ Good base S T
def CallOk (P : Program) (Pre : Nat → World → Prop) (call : Call) : Prop := ∀ g, PrimOk P Pre g (call g)
/-- What is known stays known. -/
def Stays (Pre : Nat → World → Prop) : Prop := ∀ base w w', Below base w w' → Pre base w → Pre base w'

theorem FR.put {S : St} {f f' : AFr} {a : Act} {d : Option Tmp} {v v' : Value} (hf : FR S f a) (hv : VR S v v') (h : putD f d v = some f') : FR S f' (a.put d v') := by
  unfold putD at h
  split at h
  · rename_i t0
    obtain ⟨t, rfl⟩ : ∃ t : Nat, t = t0 := ⟨t0, rfl⟩
    split at h
    · rename_i ht
      obtain rfl := Option.some.inj h
      have ht' : t < f.n := by simpa [Nat.blt_eq] using ht
      have hn := hf.n
      refine ⟨by simp [AFr.put, Act.put, hf.n], hf.small, fun u hu => ?_⟩
      have hu' : u < f.n := hu
      have hts : 0 < 16000001 := by have := hf.small; omega
      have hsz : t < a.tmps.size := by omega
      by_cases htu : t = u
      · subst htu
        have e1 : (f.put t v).get t = v := by simp only [AFr.get, AFr.put, Tr.get_set_self _ _ _ _ (deep hts)]
        have e2 : (a.put (some t) v').tmps.getD t undef = v' := by
          simp [Act.put, hsz]
        rw [e1, e2]; exact hv
      · have e1 : (f.put t v).get u = f.get u := by simp only [AFr.get, AFr.put, Tr.get_set_ne _ _ _ _ _ htu]
        have e2 : (a.put (some t) v').tmps.getD u undef = a.tmps.getD u undef := by
          simp [Act.put, Array.getElem?_setIfInBounds_ne htu]
        rw [e1, e2]; exact hf.get u hu'
    · cases h
  · obtain rfl := Option.some.inj h
    exact hf
theorem put_defers (a : Act) (d : Option Tmp) (v : Value) : (a.put d v).defers = a.defers := by cases d <;> rfl

theorem yield_eq {S : St} {f : AFr} {a : Act} (hf : FR S f a) (ops : List Oper) (j : Nat) : yieldA ops f j = yielded ops.toArray a.tmps j := by
  have hj : (ops.toArray)[j]? = (ops.drop j).head? := by rw [List.getElem?_toArray, List.head?_drop]
  unfold yieldA yielded
  rw [hj]
  cases ops.drop j with
  | nil => rfl
  | cons o r =>
    simp only [List.head?_cons, Option.bind_some]
    cases o.dst with
    | none => rfl
    | some d0 =>
      obtain ⟨d, rfl⟩ : ∃ d : Nat, d = d0 := ⟨d0, rfl⟩
      simp only [Option.bind_some]
      by_cases hd : d < f.n
      · rw [if_pos (by simpa [Nat.blt_eq] using hd)]
        have hv := hf.get d hd
        have hsz : d < a.tmps.size := by rw [← hf.n]; exact hd
        have e : a.tmps[d]? = some (a.tmps.getD d undef) := by simp [hsz]
        rw [e]
        generalize a.tmps.getD d undef = v' at hv
        generalize f.get d = v0 at hv
        cases hv <;> rfl
      · rw [if_neg (by simpa [Nat.blt_eq] using hd)]
        have e : a.tmps[d]? = none := Array.getElem?_eq_none (by have := hf.n; omega)
        rw [e]
theorem wanted_eq {S : St} {f : AFr} {a : Act} (hf : FR S f a) (ops : List Oper) (o : Oper) : wantedA ops o f = Region.wanted o (yielded ops.toArray a.tmps) := by
  unfold wantedA Region.wanted
  cases o.guard with
  | none => rfl
  | some p =>
    obtain ⟨j, want⟩ := p
    simp only [yield_eq hf]
    cases yielded ops.toArray a.tmps j <;> rfl

/-! The trial, once more. -/
def MadeAt (es : List Ev) (j i : Nat) (b : Blk) : Prop := ∃ v, es[j]? = some (.made v i b)
theorem madeOf_mem : ∀ {es : List Ev} {n : Nat} {x : Nat × Nat × Blk}, x ∈ madeOf es n → ∃ j, x.1 = n + j ∧ MadeAt es j x.2.1 x.2.2
  | [], _, _, h => by cases h
  | e :: r, n, x, h => by
    have rest : x ∈ madeOf r (n + 1) → ∃ j, x.1 = n + j ∧ MadeAt (e :: r) j x.2.1 x.2.2 := fun h => by
      obtain ⟨j, h1, v, h2⟩ := madeOf_mem h
      exact ⟨j + 1, by omega, v, by simpa using h2⟩
    cases e with
    | made v i b =>
      simp only [madeOf] at h
      rcases List.mem_cons.1 h with rfl | h
      · exact ⟨0, rfl, v, rfl⟩
      · exact rest h
    | skip => exact rest h
    | quiet v => exact rest h
    | eff v s => exact rest h
theorem mem_madeOf : ∀ {es : List Ev} {n j i : Nat} {b : Blk}, MadeAt es j i b → (n + j, i, b) ∈ madeOf es n
  | [], _, _, _, _, ⟨v, h⟩ => by simp at h
  | e :: r, n, 0, i, b, ⟨v, h⟩ => by
    simp only [List.getElem?_cons_zero, Option.some.injEq] at h
    subst h
    exact List.mem_cons_self ..
  | e :: r, n, j + 1, i, b, ⟨v, h⟩ => by
    have := mem_madeOf (es := r) (n := n + 1) (j := j) ⟨v, by simpa using h⟩
    rw [show n + 1 + j = n + (j + 1) by omega] at this
    cases e <;> simp only [madeOf] <;> first
      | exact List.mem_cons_of_mem _ this
      | exact this

structure Rep (es : List Ev) (T : ASt) (q : Nat → Prop) (s : ASt) : Prop where
  next : s.next = T.next
  old : ∀ i o, T.heap.get i = some o → s.heap.get i = some o
  new : ∀ i j b, T.heap.get i = none → MadeAt es j i b → q j → s.heap.get i = some (.blk b)
  gone : ∀ i, T.heap.get i = none → (∀ j b, MadeAt es j i b → ¬ q j) → s.heap.get i = none

def diff (s s' : ASt) (i : Nat) : Option AO :=
  match s.heap.get i with
  | some _ => none
  | none => s'.heap.get i
theorem Rep.adds {es : List Ev} {T s s' : ASt} {q q' : Nat → Prop} (hb : ∀ j i b, MadeAt es j i b → i < T.next) (h : Rep es T q s) (h' : Rep es T q' s') (hq : ∀ j, q j → q' j) : Adds s s' (diff s s') := by
  refine ⟨by rw [h.next, h'.next], fun j o hj => ?_, fun j => ?_⟩
  · unfold diff at hj
    split at hj
    · cases hj
    · rename_i hs
      refine ⟨hs, ?_⟩
      rw [h.next]
      cases hT : T.heap.get j with
      | some o' => rw [h.old j o' hT] at hs; cases hs
      | none =>
        by_cases hx : ∃ jj b, MadeAt es jj j b
        · obtain ⟨jj, b, hx⟩ := hx; exact hb _ _ _ hx
        · rw [h'.gone j hT (fun jj b hm => absurd ⟨jj, b, hm⟩ hx)] at hj; cases hj
  · unfold diff
    cases hs : s.heap.get j with
    | none => simp only; cases s'.heap.get j <;> rfl
    | some o =>
      simp only
      cases hT : T.heap.get j with
      | some o' => rw [h'.old j o' hT, ← hs, h.old j o' hT]
      | none =>
        by_cases hx : ∃ jj b, MadeAt es jj j b ∧ q jj
        · obtain ⟨jj, b, hx, hqj⟩ := hx
          rw [h'.new j jj b hT hx (hq jj hqj), ← hs, h.new j jj b hT hx hqj]
        · rw [h.gone j hT (fun jj b hm hqj => hx ⟨jj, b, hm, hqj⟩)] at hs; cases hs

theorem sel_ne {p : Nat → Bool} : ∀ {as : Made} {j i : Nat} {b : Blk}, (j, i, b) ∈ as → p j = true → sel p as i ≠ none
  | [], _, _, _, h, _ => by cases h
  | (j', i', b') :: r, j, i, b, h, hp => by
    simp only [sel]
    split
    · simp
    · rename_i hn
      rcases List.mem_cons.1 h with e | h
      · injection e with e1 e2; injection e2 with e2 e3; subst e1; subst e2
        exact absurd ⟨hp, rfl⟩ hn
      · exact sel_ne h hp

theorem fill_rep {es : List Ev} {p : Nat → Bool} {T : ASt} {as : Made} (hb : ∀ x ∈ as, 0 < 16000001) (h1 : ∀ j i b, MadeAt es j i b → p j = true → (j, i, b) ∈ as) (h2 : ∀ x ∈ as, MadeAt es x.1 x.2.1 x.2.2)
    (hu : ∀ j j' i b b', MadeAt es j i b → MadeAt es j' i b' → j = j' ∧ b = b') : Rep es T (fun j => p j = true) (fill p T as) := by
  obtain ⟨n1, g1⟩ := fill_get p as T hb
  refine ⟨n1, fun i o hi => by rw [g1, hi], fun i j b hi hm hp => ?_, fun i hi hn => ?_⟩
  · rw [g1, hi]
    cases hs : sel p as i with
    | none => exact absurd hs (sel_ne (h1 j i b hm hp) hp)
    | some o =>
      obtain ⟨j', b', k1, _, rfl⟩ := sel_some hs
      obtain ⟨_, rfl⟩ := hu _ _ _ _ _ hm (h2 _ k1)
      rfl
  · rw [g1, hi]
    cases hs : sel p as i with
    | none => rfl
    | some o =>
      obtain ⟨j', b', k1, k2, rfl⟩ := sel_some hs
      exact absurd k2 (hn _ _ (h2 _ k1))

theorem Rep.step {es : List Ev} {T s t s1 t' : ASt} {q q' : Nat → Prop} (h : Rep es T q s) (h' : Rep es T q' t) (ha : Adds s1 t' (diff s t)) (hk : Keeps s s1) : Rep es s1 q' t' := by
  have hnone : ∀ i, s1.heap.get i = none → s.heap.get i = none ∧ T.heap.get i = none := fun i hi => by
    have e1 : s.heap.get i = none := by
      cases hs : s.heap.get i with
      | none => rfl
      | some o => exact absurd hi (hk.here i (by rw [hs]; simp))
    refine ⟨e1, ?_⟩
    cases hT : T.heap.get i with
    | none => rfl
    | some o => rw [h.old i o hT] at e1; cases e1
  refine ⟨ha.next, fun i o hi => ha.same hi, fun i j b hi hm hq => ?_, fun i hi hn => ?_⟩
  · obtain ⟨e1, e2⟩ := hnone i hi
    rw [ha.get i]
    simp only [diff, e1, h'.new i j b e2 hm hq]
  · obtain ⟨e1, e2⟩ := hnone i hi
    rw [ha.get i]
    simp only [diff, e1, h'.gone i e2 hn, hi]
theorem Rep.same {es : List Ev} {T s s' : ASt} {q : Nat → Prop} (h : Rep es T q s) (hs : Same s s') : Rep es T q s' :=
  ⟨by rw [hs.next, h.next], fun i o hi => by rw [hs.get i]; exact h.old i o hi, fun i j b hi hm hq => by rw [hs.get i]; exact h.new i j b hi hm hq, fun i hi hn => by rw [hs.get i]; exact h.gone i hi hn⟩
theorem Rep.congr {es : List Ev} {T s : ASt} {q q' : Nat → Prop} (h : Rep es T q s) (hq : ∀ j i b, MadeAt es j i b → (q' j ↔ q j)) : Rep es T q' s :=
  ⟨h.next, h.old, fun i j b hi hm hqj => h.new i j b hi hm ((hq j i b hm).1 hqj), fun i hi hn => h.gone i hi (fun j b hm hqj => hn j b hm ((hq j i b hm).2 hqj))⟩
theorem Rep.put {es : List Ev} {T s : ASt} {q q' : Nat → Prop} (h : Rep es T q s) {j i : Nat} {b : Blk} (hm : MadeAt es j i b) (hi : s.heap.get i = none) (hlt : 0 < 16000001)
    (hu : ∀ j j' i b b', MadeAt es j i b → MadeAt es j' i b' → j = j' ∧ b = b') (hq : ∀ k, q' k ↔ k = j ∨ q k) : Rep es T q' (s.put i (.blk b)) := by
  have self : (s.put i (.blk b)).heap.get i = some (.blk b) := by simp only [ASt.put, Tr.get_set_self _ _ _ _ (deep hlt)]
  refine ⟨h.next, fun k o hk => ?_, fun k j' b' hk hm' hqj => ?_, fun k hk hn => ?_⟩
  · have hki : i ≠ k := fun e => by subst e; rw [h.old _ o hk] at hi; cases hi
    rw [ASt.get_put_ne _ _ _ _ hki]; exact h.old k o hk
  · by_cases hki : i = k
    · subst hki
      obtain ⟨_, rfl⟩ := hu _ _ _ _ _ hm hm'
      exact self
    · rw [ASt.get_put_ne _ _ _ _ hki]
      refine h.new k j' b' hk hm' ?_
      rcases (hq j').1 hqj with rfl | h'
      · obtain ⟨v, e1⟩ := hm
        obtain ⟨v', e2⟩ := hm'
        rw [e1] at e2
        injection e2 with e2; injection e2 with _ e3 _
        exact absurd e3 hki
      · exact h'
  · have hki : i ≠ k := fun e => by subst e; exact hn j b hm ((hq j).2 (.inl rfl))
    rw [ASt.get_put_ne _ _ _ _ hki]
    exact h.gone k hk (fun j' b' hm' hqj => hn j' b' hm' ((hq j').2 (.inr hqj)))

theorem drawOp_inv {P : Program} {call : Call} {all : List Oper} {m id : Nat} {as : Made} {o : Oper} {f : AFr} {T : ASt} {e : Ev} (h : drawOp P call all m id as o f T = some e) :
    (wantedA all o f = false ∧ e = .skip) ∨ (wantedA all o f = true ∧ ((quietOp P o = true ∧ ∃ v, e = .quiet v) ∨
      (quietOp P o = false ∧ allocOp P o = true ∧ ∃ v s1 b, e = .made v id b ∧ aop P o f ⟨.nil, id⟩ = some (.val v s1) ∧ s1.blk? id = some b) ∨
      (effectOp P o = true ∧ ∃ v s1, e = .eff v s1 ∧ (aop P o f (fill (Nat.testBit m) T as) = some (.val v s1) ∨ ∃ g args, aop P o f (fill (Nat.testBit m) T as) = some (.call g args) ∧ call g args (fill (Nat.testBit m) T as) = some (v, s1))))) := by
  unfold drawOp at h
  split at h
  · rename_i hw; injection h with h; exact .inl ⟨hw, h.symm⟩
  · rename_i hw
    refine .inr ⟨hw, ?_⟩
    split at h
    · rename_i hq
      split at h
      · injection h with h; exact .inl ⟨hq, _, h.symm⟩
      · cases h
    · rename_i hq ha
      split at h
      · rename_i v s1 hop
        split at h
        · rename_i b hb
          injection h with h; exact .inr (.inl ⟨hq, ha, v, s1, b, h.symm, hop, hb⟩)
        · cases h
      · cases h
    · rename_i hq ha
      have he : effectOp P o = true := by simp [effectOp, hq, ha]
      split at h
      · rename_i v s1 hop
        injection h with h; exact .inr (.inr ⟨he, v, s1, h.symm, .inl hop⟩)
      · rename_i g args hop
        split at h
        · rename_i v s1 hc
          injection h with h; exact .inr (.inr ⟨he, v, s1, h.symm, .inr ⟨g, args, hop, hc⟩⟩)
        · cases h
      · cases h

structure Trial (P : Program) (call : Call) (ops : List Oper) (f0 : AFr) (s0 : ASt) (es : List Ev) (F : Nat → AFr) (G : Nat → ASt) : Prop where
  len : es.length = ops.length
  F0 : F 0 = f0
  G0 : G 0 = ⟨s0.heap, s0.next + allocs P ops⟩
  room : 0 ≤ 16000000
  op : ∀ k o, ops[k]? = some o → ∃ e, es[k]? = some e ∧ drawOp P call ops (nth0 (masks ops []) k) (s0.next + allocs P (ops.take k)) (madeOf (es.take k) 0) o (F k) (G k) = some e ∧
    putD (F k) o.dst e.val = some (F (k + 1)) ∧ G (k + 1) = e.after (G k)
  same : ∀ k o v p, ops[k]? = some o → es[k]? = some (.quiet v) → p ≤ ops.length → (∀ x o', ops[x]? = some o' → effectOp P o' = true → Nat.testBit (nth0 (masks ops []) k) x = true → x < p) →
    (∀ x o', ops[x]? = some o' → effectOp P o' = true → x < p → Nat.testBit (nth0 (masks ops []) x) k = false) →
    ∃ t, aop P o (F k) (fill (Nat.testBit (nth0 (masks ops []) k)) (G p) (madeOf es 0)) = some (.val v t)

theorem drawRun_trial {P : Program} {call : Call} {ops : List Oper} {f f' : AFr} {s s' : ASt} (h : drawRun P call ops f s = some (f', s')) :
    ∃ es F G, Trial P call ops f s es F G ∧ f' = F ops.length ∧ s' = fill (fun _ => true) (G ops.length) (madeOf es 0) := by
  unfold drawRun at h
  split at h
  · cases h
  rename_i hle
  split at h
  case h_2 => cases h
  rename_i es hd
  split at h
  case h_2 => cases h
  rename_i hck
  injection h with h; injection h with e1 e2; subst e1; subst e2
  have hms : (masks ops []).length = ops.length := by
    obtain ⟨r, h1, h2⟩ := masks_pre ops []
    rw [h1]; simpa using h2
  obtain ⟨h1, F, G, h2, h3, h4, h5, h6, h7⟩ := drawOps_spec ops (masks ops []) 0 s.next f _ [] es hms hd
  refine ⟨es, F, G, ⟨h1, h2, h3, by omega, fun k o ho => by simpa using h7 k o ho, ?_⟩, h4, by rw [h6]⟩
  intro k o v p ho he hp hlo hhi
  rw [← h2] at hck
  have hs := checkAll_spec k (masks ops []) ops es 0 F hms hck (fun k o e ho he => by
    obtain ⟨e', k1, _, k3, _⟩ := h7 k o ho
    rw [he] at k1; injection k1 with k1; subst k1; exact k3) o v ho he
  have hst := h5 p hp
  simp only [Nat.zero_add] at hst hs
  have c1 : countP (Nat.testBit (nth0 (masks ops []) k)) P ops 0 ≤ countP (fun j => Nat.blt j p) P ops 0 := countP_mono ops 0 (fun x o' ho' he' hx => by
    simp only [Nat.zero_add] at hx ⊢
    rw [Nat.blt_eq]; exact hlo x o' ho' he' hx)
  have c2 : countP (fun j => Nat.blt j p) P ops 0 ≤ countP (fun j => !Nat.testBit (nth0 (masks ops []) j) k) P ops 0 := countP_mono ops 0 (fun x o' ho' he' hx => by
    simp only [Nat.zero_add, Nat.blt_eq] at hx ⊢
    rw [hhi x o' ho' he' hx]; rfl)
  generalize countP (fun j => Nat.blt j p) P ops 0 = c at *
  generalize countP (Nat.testBit (nth0 (masks ops []) k)) P ops 0 = lo at *
  generalize countP (fun j => !Nat.testBit (nth0 (masks ops []) j) k) P ops 0 = hi at *
  have hmem : G p ∈ (((stagesOf P ops es ⟨s.heap, s.next + allocs P ops⟩).take (hi + 1)).drop lo) := by
    refine List.mem_of_getElem? (i := c - lo) ?_
    rw [List.getElem?_drop, show lo + (c - lo) = c by omega, List.getElem?_take, if_pos (by omega), hst]
  obtain ⟨u, t, k1, k2⟩ := sameAt_mem hs hmem
  rw [valEq_ok k2]
  exact ⟨t, k1⟩

section
variable {P : Program} {call : Call} {ops : List Oper} {f0 : AFr} {s0 : ASt} {es : List Ev} {F : Nat → AFr} {G : Nat → ASt}

theorem Trial.made (h : Trial P call ops f0 s0 es F G) {j i : Nat} {b : Blk} (hm : MadeAt es j i b) : ∃ o, ops[j]? = some o ∧ allocOp P o = true ∧ quietOp P o = false ∧ i = s0.next + allocs P (ops.take j) := by
  obtain ⟨v, hm⟩ := hm
  have hlt : j < ops.length := by rw [← h.len]; exact (List.getElem?_eq_some_iff.1 hm).1
  obtain ⟨e, h1, h2, _, _⟩ := h.op j ops[j] (List.getElem?_eq_getElem hlt)
  rw [hm] at h1; injection h1 with h1; subst h1
  refine ⟨ops[j], List.getElem?_eq_getElem hlt, ?_⟩
  rcases drawOp_inv h2 with ⟨_, e⟩ | ⟨_, ⟨_, v', e⟩ | ⟨hq, ha, v', s1, b', e, _⟩ | ⟨_, v', s1, e, _⟩⟩
  · cases e
  · cases e
  · injection e with _ e _; exact ⟨ha, hq, e⟩
  · cases e
theorem Trial.uniq (h : Trial P call ops f0 s0 es F G) : ∀ j j' i b b', MadeAt es j i b → MadeAt es j' i b' → j = j' ∧ b = b' := by
  intro j j' i b b' h1 h2
  obtain ⟨o, k1, k2, _, k3⟩ := h.made h1
  obtain ⟨o', l1, l2, _, l3⟩ := h.made h2
  have hj : j = j' := by
    rcases Nat.lt_trichotomy j j' with hlt | e | hlt
    · have := allocs_take ops j j' k1 k2 hlt; omega
    · exact e
    · have := allocs_take ops j' j l1 l2 hlt; omega
  subst hj
  obtain ⟨v, e1⟩ := h1
  obtain ⟨v', e2⟩ := h2
  rw [e1] at e2; injection e2 with e2; injection e2 with _ _ e3
  exact ⟨rfl, e3⟩
theorem Trial.bound (h : Trial P call ops f0 s0 es F G) {j i : Nat} {b : Blk} (hm : MadeAt es j i b) : s0.next ≤ i ∧ i < s0.next + allocs P ops := by
  obtain ⟨o, k1, k2, _, k3⟩ := h.made hm
  have := allocs_take ops j ops.length k1 k2 (List.getElem?_eq_some_iff.1 k1).1
  rw [List.take_length] at this
  omega
theorem Trial.keep (h : Trial P call ops f0 s0 es F G) (hc : CallFr call) (hw : WF s0) : ∀ k, k ≤ ops.length → KeepB s0.next (G 0) (G k) := by
  have hb0 : WF (G 0) := by rw [h.G0]; exact ⟨h.room, fun j o hj => by have := hw.bound j o hj; show j < s0.next + _; omega⟩
  intro k
  induction k with
  | zero => intro _; exact KeepB.refl hb0
  | succ k ih =>
    intro hk
    have ik := ih (by omega)
    obtain ⟨e, h1, h2, _, h4⟩ := h.op k ops[k] (List.getElem?_eq_getElem (by omega))
    have hn0 : (G 0).next = s0.next + allocs P ops := by rw [h.G0]
    have hid : ∀ x ∈ madeOf (es.take k) 0, s0.next ≤ x.2.1 ∧ x.2.1 < (G k).next := fun x hx => by
      obtain ⟨j, hj, v, hm⟩ := madeOf_mem hx
      have hm' : MadeAt es j x.2.1 x.2.2 := ⟨v, by
        rw [List.getElem?_take] at hm
        split at hm
        · exact hm
        · cases hm⟩
      have := h.bound hm'
      have := ik.next
      omega
    have kf := KeepB.fill ik.wf hid (Nat.testBit (nth0 (masks ops []) k))
    have hB : s0.next ≤ (fill (Nat.testBit (nth0 (masks ops []) k)) (G k) (madeOf (es.take k) 0)).next := by
      have := kf.next; have := ik.next; omega
    rw [h4]
    rcases drawOp_inv h2 with ⟨_, e⟩ | ⟨_, ⟨_, v', e⟩ | ⟨hq, ha, v', s1, b', e, _⟩ | ⟨_, v', s1, e, he⟩⟩ <;> subst e
    · exact ik
    · exact ik
    · exact ik
    · refine ik.trans (kf.trans ?_)
      rcases he with hop | ⟨g, args, hop, hcl⟩
      · obtain ⟨_, _, _, k3⟩ := aop_fr (Same.refl _) kf.wf hop
        exact k3.toB hB
      · obtain ⟨_, _, _, k3⟩ := hc _ _ _ _ _ _ _ (Same.refl _) kf.wf hcl
        exact k3.toB hB
theorem Trial.Gc (h : Trial P call ops f0 s0 es F G) (a : Nat) : ∀ b, a ≤ b → b ≤ ops.length → (∀ x o, a ≤ x → x < b → ops[x]? = some o → effectOp P o = false) → G b = G a := by
  intro b
  induction b with
  | zero => intro hab _ _; rw [Nat.le_zero.1 hab]
  | succ b ih =>
    intro hab hb hx
    by_cases hab' : a = b + 1
    · rw [hab']
    obtain ⟨e, h1, h2, _, h4⟩ := h.op b ops[b] (List.getElem?_eq_getElem (by omega))
    have hne := hx b _ (by omega) (by omega) (List.getElem?_eq_getElem (show b < ops.length by omega))
    rw [h4, ← ih (by omega) (by omega) (fun x o h1 h2 h3 => hx x o h1 (by omega) h3)]
    rcases drawOp_inv h2 with ⟨_, e⟩ | ⟨_, ⟨_, v', e⟩ | ⟨hq, ha, v', s1, b', e, _⟩ | ⟨he, _⟩⟩
    · subst e; rfl
    · subst e; rfl
    · subst e; rfl
    · rw [hne] at he; cases he
theorem Trial.Geq (h : Trial P call ops f0 s0 es F G) {a b : Nat} (ha : a ≤ ops.length) (hb : b ≤ ops.length) (hx : ∀ x o, ops[x]? = some o → effectOp P o = true → (x < a ↔ x < b)) : G a = G b := by
  rcases Nat.le_total a b with hab | hab
  · refine (h.Gc a b hab hb (fun x o h1 h2 h3 => ?_)).symm
    cases he : effectOp P o with
    | false => rfl
    | true => have := (hx x o h3 he).2 h2; omega
  · refine h.Gc b a hab ha (fun x o h1 h2 h3 => ?_)
    cases he : effectOp P o with
    | false => rfl
    | true => have := (hx x o h3 he).1 h2; omega

theorem putD_get_ne {f f' : AFr} {d : Option Tmp} {v : Value} {t : Nat} (h : putD f d v = some f') (hd : d ≠ some t) : f'.get t = f.get t := by
  unfold putD at h
  split at h
  · split at h
    · injection h with h; subst h
      rename_i u _
      have hu : u ≠ t := fun e => hd (by rw [e])
      simp only [AFr.get, AFr.put, Tr.get_set_ne _ _ _ _ _ hu]
    · cases h
  · injection h with h; subst h; rfl
theorem putD_get_self {f f' : AFr} {v : Value} {t : Nat} (h : putD f (some t) v = some f') (_ : f.n ≤ 16000000) : f'.get t = v := by
  unfold putD at h
  simp only at h
  split at h
  · rename_i ht
    have ht' : t < f.n := by simpa [Nat.blt_eq] using ht
    injection h with h; subst h
    simp only [AFr.get, AFr.put, Tr.get_set_self _ _ _ _ (deep (show 0 < 16000001 by omega))]
  · cases h
theorem putD_some {f g f' : AFr} {d : Option Tmp} {v : Value} (h : putD f d v = some f') (hn : g.n = f.n) : ∃ g', putD g d v = some g' := by
  unfold putD at *
  cases d with
  | none => exact ⟨g, rfl⟩
  | some t =>
    simp only at h ⊢
    rw [hn]
    split at h
    · rename_i ht; rw [if_pos ht]; exact ⟨_, rfl⟩
    · cases h
theorem Trial.Fn (h : Trial P call ops f0 s0 es F G) : ∀ k, k ≤ ops.length → (F k).n = f0.n := by
  intro k
  induction k with
  | zero => intro _; rw [h.F0]
  | succ k ih =>
    intro hk
    obtain ⟨e, _, _, h3, _⟩ := h.op k ops[k] (List.getElem?_eq_getElem (by omega))
    rw [putD_n h3]; exact ih (by omega)
theorem Trial.Fc (h : Trial P call ops f0 s0 es F G) (t a : Nat) : ∀ b, a ≤ b → b ≤ ops.length → (∀ x o, a ≤ x → x < b → ops[x]? = some o → o.dst ≠ some t) → (F b).get t = (F a).get t := by
  intro b
  induction b with
  | zero => intro hab _ _; rw [Nat.le_zero.1 hab]
  | succ b ih =>
    intro hab hb hx
    by_cases hab' : a = b + 1
    · rw [hab']
    obtain ⟨e, h1, _, h3, _⟩ := h.op b ops[b] (List.getElem?_eq_getElem (by omega))
    have hne := hx b _ (by omega) (by omega) (List.getElem?_eq_getElem (show b < ops.length by omega))
    rw [putD_get_ne h3 hne]
    exact ih (by omega) (by omega) (fun x o h1 h2 h3 => hx x o h1 (by omega) h3)

/-! The order. -/
theorem regOk_after (h : regOk P ops = true) {y : Nat} {o : Oper} (ho : ops[y]? = some o) {e : Edge} (he : e ∈ o.after.toList) (hb : Region.binds .any e = true) : e.on < y := by
  simp only [regOk, List.all_eq_true, Bool.and_eq_true] at h
  have := (h (o, y) (by rw [List.mem_zipIdx_iff_getElem?]; simpa using ho)).1 e he
  simpa [hb, Nat.blt_eq] using this
theorem regOk_dep (h : regOk P ops = true) {x y : Nat} {ox oy : Oper} (hx : ops[x]? = some ox) (hy : ops[y]? = some oy) (hlt : x < y) (hd : depends P ops ox oy = true) : Nat.testBit (nth0 (masks ops []) y) x = true := by
  simp only [regOk, List.all_eq_true, Bool.and_eq_true] at h
  have := (h (oy, y) (by rw [List.mem_zipIdx_iff_getElem?]; simpa using hy)).2 (ox, x) (by rw [List.mem_zipIdx_iff_getElem?]; simpa using hx)
  have hb : Nat.blt x y = true := by rw [Nat.blt_eq]; exact hlt
  simpa [hb, hd] using this

def Closed (ops : List Oper) (L : Nat → Prop) : Prop := ∀ y o, ops[y]? = some o → L y → ∀ e ∈ o.after.toList, Region.binds .any e = true → L e.on
theorem anc (h : regOk P ops = true) {L : Nat → Prop} (hc : Closed ops L) : ∀ y o, ops[y]? = some o → (∀ e ∈ o.after.toList, Region.binds .any e = true → L e.on) → ∀ x, Nat.testBit (nth0 (masks ops []) y) x = true → L x := by
  intro y
  induction y using Nat.strongRecOn with
  | ind y ih =>
    intro o ho he x hx
    obtain ⟨acc', h1, h2⟩ := masks_spec ops [] y o ho
    simp only [List.length_nil, Nat.zero_add] at h1 h2
    rw [h2] at hx
    rcases maskOf_inv hx with h0 | ⟨e, e1, e2, e3⟩
    · simp at h0
    · have hlt := regOk_after h ho e1 e2
      have hL := he e e1 e2
      rcases e3 with rfl | e3
      · exact hL
      · rw [h1 _ hlt] at e3
        have hyl := (List.getElem?_eq_some_iff.1 ho).1
        have hoe : ops[e.on]? = some ops[e.on] := List.getElem?_eq_getElem (show e.on < ops.length by omega)
        exact ih e.on hlt _ hoe (hc _ _ hoe hL) x e3
theorem mask_lt (h : regOk P ops = true) {y : Nat} {o : Oper} (ho : ops[y]? = some o) {x : Nat} (hx : Nat.testBit (nth0 (masks ops []) y) x = true) : x < y :=
  anc h (L := fun x => x < y) (fun _ _ hz hL _ he hb => Nat.lt_trans (regOk_after h hz he hb) hL) y o ho (fun _ he hb => regOk_after h ho he hb) x hx

theorem rel (h : regOk P ops = true) {L : Nat → Prop} (hc : Closed ops L) {i : Nat} {o : Oper} (ho : ops[i]? = some o) (hn : ¬ L i) (he : ∀ e ∈ o.after.toList, Region.binds .any e = true → L e.on)
    {x : Nat} {ox : Oper} (hx : ops[x]? = some ox) (h1 : x < i → depends P ops ox o = true) (h2 : i < x → depends P ops o ox = true) : x < i ↔ L x := by
  rcases Nat.lt_trichotomy x i with hlt | e | hlt
  · exact ⟨fun _ => anc h hc i o ho he x (regOk_dep h hx ho hlt (h1 hlt)), fun _ => hlt⟩
  · subst e; exact ⟨fun hl => absurd hl (Nat.lt_irrefl _), fun hl => absurd hl hn⟩
  · refine ⟨fun hl => by omega, fun hl => ?_⟩
    exact absurd (anc h hc x ox hx (hc x ox hx hl) i (regOk_dep h ho hx hlt (h2 hlt))) hn

def Inv (P : Program) (base : Nat) (S0 : St) (a0 : Act) (ops : List Oper) (es : List Ev) (F : Nat → AFr) (G : Nat → ASt) (L : Nat → Prop) (a : Act) (w : World) : Prop :=
  ∃ (S : St) (g : AFr) (p : Nat), S.w = w ∧ Good base S0 S ∧ FR S g a ∧ a.defers = a0.defers ∧ g.n = (F 0).n ∧ p ≤ ops.length ∧ (∀ x o, ops[x]? = some o → effectOp P o = true → (x < p ↔ L x)) ∧ Rep es (G p) L S.s ∧
    (∀ j i b, MadeAt es j i b → ¬ L j → S.s.heap.get i = none) ∧ (∀ i, i ≤ ops.length → ∀ t : Nat, (∀ x o, ops[x]? = some o → o.dst = some t → (x < i ↔ L x)) → g.get t = (F i).get t)

theorem hits_self {l : List Nat} {d : Option Tmp} {t : Nat} (hd : d = some t) (ht : t ∈ l) : hits l d = true := by
  subst hd
  simp only [hits, List.any_eq_true]
  exact ⟨t, ht, Nat.beq_refl t⟩

theorem inv_step (h : Trial P call ops f0 s0 es F G) (hreg : regOk P ops = true) (hc : CallFr call) {Pre : Nat → World → Prop} (hok : CallOk P Pre call) {base : Nat} {S0 : St} {a0 : Act} (hw0 : WF s0) (hst : Stays Pre) (hpre : Pre base S0.w) {L L' : Nat → Prop} (hcl : Closed ops L) {a : Act} {w : World} (hinv : Inv P base S0 a0 ops es F G L a w)
    {i : Nat} {o : Oper} (ho : ops[i]? = some o) (hn : ¬ L i) (he : ∀ e ∈ o.after.toList, Region.binds .any e = true → L e.on) (hL' : ∀ j, L' j ↔ j = i ∨ L j) {K : Act → World → Prop} {Q : Exit → Act → World → Prop}
    (hK : ∀ a w, Inv P base S0 a0 ops es F G L' a w → K a w) : wpOp P ops.toArray Q i K a w := by
  obtain ⟨S, g, p, rfl, hg, hf, had, hgn, hp, heff, hrep, hfree, hfr⟩ := hinv
  obtain ⟨ev, hev, hdo, hput, hG⟩ := h.op i o ho
  have hil : i < ops.length := (List.getElem?_eq_some_iff.1 ho).1
  have hgF : g.n = (F i).n := by rw [hgn, h.F0, h.Fn i (by omega)]
  obtain ⟨g', hg'⟩ := putD_some hput hgF
  have hsmall := hf.small
  have hkp := h.keep hc hw0 p hp
  have hG0n : (G 0).next = s0.next + allocs P ops := by rw [h.G0]
  have hmb : ∀ j k b, MadeAt es j k b → k < (G p).next := fun j k b hm => by have := (h.bound hm).2; have := hkp.next; omega
  -- what it sees
  have hsee : ∀ t : Nat, t ∈ seenBy ops o → g.get t = (F i).get t := fun t ht => hfr i (by omega) t (fun x ox hx hd => rel hreg hcl ho hn he hx
    (fun _ => by simp only [depends, hits_self hd ht, Bool.or_true, Bool.true_or])
    (fun _ => by simp only [depends, hits_self hd ht, Bool.or_true, Bool.true_or]))
  have hsee2 : ∀ t : Nat, Operand.tmp t ∈ o.op.operands.toList → (F i).get t = g.get t := fun t ht => (hsee t (by
    simp only [seenBy, List.mem_append, List.mem_filterMap]
    exact .inl ⟨_, ht, rfl⟩)).symm
  have hwant : wantedA ops o g = wantedA ops o (F i) := wantedA_congr hgF hsee
  have hcongr : ∀ s, aop P o (F i) s = aop P o g s := fun s => aop_congr hgF.symm hsee2 s
  -- the frames after it
  have hfr' : ∀ i', i' ≤ ops.length → ∀ t : Nat, (∀ x ox, ops[x]? = some ox → ox.dst = some t → (x < i' ↔ L' x)) → g'.get t = (F i').get t := by
    intro i' hi' t ht
    by_cases hd : o.dst = some t
    · have hii : i < i' := (ht i o ho hd).2 ((hL' i).2 (.inl rfl))
      have e1 : g'.get t = ev.val := by rw [hd] at hg'; exact putD_get_self hg' hsmall
      have e2 : (F (i + 1)).get t = ev.val := by rw [hd] at hput; exact putD_get_self hput (by rw [← hgF]; exact hsmall)
      rw [e1, ← e2]
      refine (h.Fc t (i + 1) i' (by omega) hi' (fun x ox h1 h2 h3 h4 => ?_)).symm
      have hLx : L x := by
        rcases (hL' x).1 ((ht x ox h3 h4).1 h2) with e | hl
        · omega
        · exact hl
      have := (rel hreg hcl ho hn he h3 (fun _ => by omega) (fun _ => by
        have : hits o.dst.toList ox.dst = true := hits_self h4 (by rw [hd]; simp)
        simp only [depends, this, Bool.or_true])).2 hLx
      omega
    · rw [putD_get_ne hg' hd]
      refine hfr i' hi' t (fun x ox hx hdx => ?_)
      rw [ht x ox hx hdx, hL' x]
      have : x ≠ i := fun e => by subst e; rw [ho] at hx; injection hx with hx; subst hx; exact hd hdx
      simp [this]
  have hgn' : g'.n = (F 0).n := by rw [putD_n hg', hgn]
  -- ending
  have fin : ∀ (T : St) (v' : Value) (p' : Nat), Good base S T → VR T ev.val v' → p' ≤ ops.length → (∀ x ox, ops[x]? = some ox → effectOp P ox = true → (x < p' ↔ L' x)) → Rep es (G p') L' T.s →
      (∀ j k b, MadeAt es j k b → ¬ L' j → T.s.heap.get k = none) → K (a.put o.dst v') T.w := by
    intro T v' p' hgT hv hp' heff' hrep' hfree'
    exact hK _ _ ⟨T, g', p', rfl, hg.trans hgT, (hf.mono hgT.ext).put hv hg', (put_defers _ _ _).trans had, hgn', hp', heff', hrep', hfree', hfr'⟩
  have hnoeff : effectOp P o = false → ∀ x ox, ops[x]? = some ox → effectOp P ox = true → (x < p ↔ L' x) := fun hne x ox hx hex => by
    rw [heff x ox hx hex, hL' x]
    have : x ≠ i := fun e => by subst e; rw [ho] at hx; injection hx with hx; subst hx; rw [hne] at hex; cases hex
    simp [this]
  have hrelE : effectOp P o = true → ∀ x ox, ops[x]? = some ox → effectOp P ox = true → (x < i ↔ L x) := fun hne x ox hx hex => rel hreg hcl ho hn he hx
    (fun _ => by simp only [depends, hex, hne, Bool.and_self, Bool.true_or]) (fun _ => by simp only [depends, hex, hne, Bool.and_self, Bool.true_or])
  have hyeff : effectOp P o = true → ∀ x ox, ops[x]? = some ox → effectOp P ox = true → (x < i + 1 ↔ L' x) := fun hne x ox hx hex => by
    rw [hL' x, ← hrelE hne x ox hx hex]
    omega
  have hGpi : effectOp P o = true → G p = G i := fun hne => h.Geq hp (by omega) (fun x ox hx hex => by rw [heff x ox hx hex, hrelE hne x ox hx hex])
  have hnm : (∀ v k b, ev ≠ .made v k b) → ∀ j k b, MadeAt es j k b → (L' j ↔ L j) := fun hne j k b hm => by
    rw [hL' j]
    have : j ≠ i := fun e => by
      subst e
      obtain ⟨v, hm⟩ := hm
      rw [hev] at hm; injection hm with hm
      exact hne _ _ _ hm
    simp [this]
  unfold wpOp
  have hoa : ops.toArray[i]? = some o := by rw [List.getElem?_toArray]; exact ho
  simp only [hoa]
  rw [← wanted_eq hf, hwant]
  rcases drawOp_inv hdo with ⟨hwa, rfl⟩ | ⟨hwa, hcase⟩
  · rw [if_neg (by rw [hwa]; simp)]
    have hnm' := hnm (fun _ _ _ => by simp)
    have hfree' : ∀ j k b, MadeAt es j k b → ¬ L' j → S.s.heap.get k = none := fun j k b hm hl => hfree j k b hm (fun hl' => hl ((hL' j).2 (.inr hl')))
    cases hef : effectOp P o with
    | false => exact fin S undef p (Good.refl hg.sr) (VR.undef' S) hp (hnoeff hef) (hrep.congr hnm') hfree'
    | true =>
      refine fin S undef (i + 1) (Good.refl hg.sr) (VR.undef' S) (by omega) (hyeff hef) ?_ hfree'
      have : G (i + 1) = G p := by rw [hG, hGpi hef]; rfl
      rw [this]
      exact hrep.congr hnm'
  · rw [if_pos hwa]
    refine .inl ?_
    rcases hcase with ⟨hq, v, rfl⟩ | ⟨hq, ha, v, s1, b, rfl, hop, hb⟩ | ⟨hef, v, s1, rfl, hcase⟩
    · -- it looks
      have hnm' := hnm (fun _ _ _ => by simp)
      obtain ⟨t, hop⟩ := h.same i o v p ho hev hp (fun x ox hx hex hb => (heff x ox hx hex).2 (anc hreg hcl i o ho he x hb)) (fun x ox hx hex hxp => by
        cases hb : Nat.testBit (nth0 (masks ops []) x) i with
        | false => rfl
        | true => exact absurd (anc hreg hcl x ox hx (hcl x ox hx ((heff x ox hx hex).1 hxp)) i hb) hn)
      have hids : ∀ x ∈ madeOf es 0, s0.next ≤ x.2.1 ∧ x.2.1 < (G p).next := fun x hx => by
        obtain ⟨j, _, hm⟩ := madeOf_mem hx
        exact ⟨(h.bound hm).1, hmb _ _ _ hm⟩
      have kf := KeepB.fill hkp.wf hids (Nat.testBit (nth0 (masks ops []) i))
      have hr1 : Rep es (G p) (fun j => Nat.testBit (nth0 (masks ops []) i) j = true) (fill (Nat.testBit (nth0 (masks ops []) i)) (G p) (madeOf es 0)) := fill_rep (fun x hx => by have := (hids x hx).2; have := hkp.wf.room; omega)
        (fun j k b hm _ => by have := mem_madeOf (n := 0) hm; simpa using this) (fun x hx => by obtain ⟨j, hj, hm⟩ := madeOf_mem hx; rw [show x.1 = j by omega]; exact hm) h.uniq
      have hadd := hr1.adds hmb hrep (fun j hj => anc hreg hcl i o ho he j hj)
      obtain ⟨t', k1, _, _⟩ := aop_fr hadd kf.wf hop
      rw [hcongr] at k1
      obtain ⟨v2, e, v', hv, hrun⟩ := aop_quiet hg.sr hf hq _ k1
      injection e with e1 e2
      subst e1
      unfold Oper.wp
      rw [hrun]
      have hef : effectOp P o = false := by simp [effectOp, hq]
      exact fin S v' p (Good.refl hg.sr) hv hp (hnoeff hef) (hrep.congr hnm') (fun j k b hm hl => hfree j k b hm (fun hl' => hl ((hL' j).2 (.inr hl'))))
    · -- it lays a block
      have hm : MadeAt es i (s0.next + allocs P (ops.take i)) b := ⟨v, hev⟩
      have hfr0 := hfree _ _ _ hm hn
      have hlt : s0.next + allocs P (ops.take i) < S.s.next := by rw [hrep.next]; exact hmb _ _ _ hm
      have hroom := hg.sr.room
      rw [hcongr] at hop
      obtain ⟨T, v', hT, hv, hgT, hrun⟩ := alloc_ok hg.sr hf ha ⟨hfr0, hlt, Nat.le_refl _, hroom, .inl hlt⟩ hop hb
      unfold Oper.wp
      rw [hrun]
      have hef : effectOp P o = false := by simp [effectOp, hq, ha]
      refine fin T v' p hgT hv hp (hnoeff hef) ?_ ?_
      · rw [hT]
        exact hrep.put hm hfr0 (by omega) h.uniq hL'
      · intro j k b' hm' hl
        rw [hT]
        have hji : j ≠ i := fun e => hl ((hL' j).2 (.inl e))
        have hk : s0.next + allocs P (ops.take i) ≠ k := fun e => by
          subst e
          exact hji (h.uniq _ _ _ _ _ hm' hm).1
        rw [ASt.get_put_ne _ _ _ _ hk]
        exact hfree j k b' hm' (fun hl' => hl ((hL' j).2 (.inr hl')))
    · -- it does something
      have hnm' := hnm (fun _ _ _ => by simp)
      have hGp := hGpi hef
      have hids : ∀ x ∈ madeOf (es.take i) 0, MadeAt es x.1 x.2.1 x.2.2 := fun x hx => by
        obtain ⟨j, hj, v, hm⟩ := madeOf_mem hx
        rw [show x.1 = j by omega]
        refine ⟨v, ?_⟩
        rw [List.getElem?_take] at hm
        split at hm
        · exact hm
        · cases hm
      have kf := KeepB.fill hkp.wf (fun x hx => ⟨(h.bound (hids x hx)).1, hmb _ _ _ (hids x hx)⟩) (Nat.testBit (nth0 (masks ops []) i))
      have hr1 : Rep es (G p) (fun j => Nat.testBit (nth0 (masks ops []) i) j = true) (fill (Nat.testBit (nth0 (masks ops []) i)) (G p) (madeOf (es.take i) 0)) := fill_rep (fun x hx => by have := hmb _ _ _ (hids x hx); have := hkp.wf.room; omega)
        (fun j k b hm hj => by
          have hlt := mask_lt hreg ho hj
          have : MadeAt (es.take i) j k b := by
            obtain ⟨v, hm⟩ := hm
            exact ⟨v, by rw [List.getElem?_take, if_pos hlt]; exact hm⟩
          have := mem_madeOf (n := 0) this; simpa using this) hids h.uniq
      have hadd := hr1.adds hmb hrep (fun j hj => anc hreg hcl i o ho he j hj)
      have hwS := hg.sr.wf
      rw [← hGp] at hcase
      have hG1 : G (i + 1) = s1 := by rw [hG]; rfl
      have last : ∀ (T : St) (v' : Value) (t' : ASt), Same t' T.s → Adds s1 t' (diff (fill (Nat.testBit (nth0 (masks ops []) i)) (G p) (madeOf (es.take i) 0)) S.s) → Keeps (fill (Nat.testBit (nth0 (masks ops []) i)) (G p) (madeOf (es.take i) 0)) s1 → Keeps S.s t' → VR T v v' → Good base S T → K (a.put o.dst v') T.w := by
        intro T v' t' hTs k2 k3 k4 hv hgT
        refine fin T v' (i + 1) hgT hv (by omega) (hyeff hef) ?_ ?_
        · rw [hG1]
          exact ((hr1.step hrep k2 k3).same hTs).congr hnm'
        · intro j k b hm hl
          rw [hTs.get k]
          exact k4.gone k (by rw [hrep.next]; exact hmb _ _ _ hm) (hfree j k b hm (fun hl' => hl ((hL' j).2 (.inr hl'))))
      rcases hcase with hop | ⟨gf, args, hop, hcl2⟩
      · obtain ⟨t', k1, k2, k3⟩ := aop_fr hadd kf.wf hop
        obtain ⟨_, _, _, k4⟩ := aop_fr (Same.refl _) hwS k1
        rw [hcongr] at k1
        obtain ⟨T, v', hTs, hv, hgT, hrun⟩ := aop_ok hg.sr hf _ k1
        unfold Oper.wp
        rcases hrun with hrun | ⟨hrun, rfl⟩
        · rw [hrun]
          exact last T v' t' (by rw [hTs]; exact Same.refl _) k2 k3 k4 hv hgT
        · rw [hrun]
          exact last T undef t' (by rw [hTs]; exact Same.refl _) k2 k3 k4 hv hgT
      · have k1 := aop_fr hadd kf.wf hop
        simp only [FrAR] at k1
        rw [hcongr] at k1
        obtain ⟨t', c1, c2, c3⟩ := hc _ _ _ _ _ _ _ hadd kf.wf hcl2
        obtain ⟨_, _, _, c4⟩ := hc _ _ _ _ _ _ _ (Same.refl _) hwS c1
        obtain ⟨args', hva, hex⟩ := aop_ok hg.sr hf _ k1
        unfold Oper.wp
        rw [hex]
        rcases hok gf base S S.s args v t' (Same.refl _) hg.sr (hst base _ _ hg.below hpre) c1 args' hva with ⟨hrun, hcalls⟩ | ⟨T, v', hrun, hTs, hv, hgT⟩
        · rw [hrun]
          refine Calls.mono hcalls ?_
          rintro e w' ⟨T, v', hTs, rfl, rfl, hv, hgT⟩
          exact last T v' t' hTs c2 c3 c4 hv hgT
        · rw [hrun]
          exact last T v' t' hTs c2 c3 c4 hv hgT
end

end Go.Cl
