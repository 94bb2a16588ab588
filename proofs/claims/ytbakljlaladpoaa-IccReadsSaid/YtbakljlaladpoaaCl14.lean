/-
  The clean machine, part 14: blocks that the code does not know turn nothing in what it does.
-/
import Derived.Test.YtbakljlaladpoaaCl13
namespace Go.Cl

abbrev Call := FuncId → List Value → ASt → Option (Value × ASt)

def CallFr (call : Call) : Prop := ∀ (s s' : ASt) (X : Nat → Option AO) (g : FuncId) (args : List Value) (v : Value) (t : ASt), Adds s s' X → WF s → call g args s = some (v, t) → ∃ t', call g args s' = some (v, t') ∧ Adds t t' X ∧ Keeps s t

theorem runOps_fr {P : Program} {call : Call} (hc : CallFr call) (all : List Oper) : ∀ (l : List Oper) {f f1 : AFr} {s s' t : ASt} {X : Nat → Option AO}, Adds s s' X → WF s → runOps P call all l f s = some (f1, t) → ∃ t', runOps P call all l f s' = some (f1, t') ∧ Adds t t' X ∧ Keeps s t := by
  intro l
  induction l with
  | nil =>
    intro f f1 s s' t X h hw hr
    simp only [runOps] at hr
    injection hr with hr; injection hr with e1 e2; subst e1; subst e2
    exact ⟨s', rfl, h, Keeps.refl hw⟩
  | cons o l ih =>
    intro f f1 s s' t X h hw hr
    simp only [runOps] at hr ⊢
    split at hr
    · rename_i hwa
      rw [if_pos hwa]
      split at hr
      · rename_i v s1 hop
        obtain ⟨t1, k1, k2, k3⟩ := aop_fr h hw hop
        rw [k1]
        split at hr
        · rename_i f2 hp
          obtain ⟨t', j1, j2, j3⟩ := ih k2 k3.wf hr
          exact ⟨t', by simp only [hp]; exact j1, j2, k3.trans j3⟩
        · cases hr
      · rename_i g args hop
        have k1 := aop_fr h hw hop
        simp only [FrAR] at k1
        rw [k1]
        split at hr
        · rename_i v s1 hcl
          obtain ⟨t1, c1, c2, c3⟩ := hc _ _ _ _ _ _ _ h hw hcl
          split at hr
          · rename_i f2 hp
            obtain ⟨t', j1, j2, j3⟩ := ih c2 c3.wf hr
            exact ⟨t', by simp only [c1, hp]; exact j1, j2, c3.trans j3⟩
          · cases hr
        · cases hr
      · cases hr
    · rename_i hwa
      rw [if_neg hwa]
      split at hr
      · rename_i f2 hp
        obtain ⟨t', j1, j2, j3⟩ := ih h hw hr
        exact ⟨t', j1, j2, j3⟩
      · cases hr

/-! Laying the new blocks. -/
abbrev Made := List (Nat × Nat × Blk)
def sel (p : Nat → Bool) : Made → Nat → Option AO
  | [], _ => none
  | (j, id, b) :: r, i => if p j = true ∧ id = i then some (.blk b) else sel p r i

theorem fill_get (p : Nat → Bool) : ∀ (as : Made) (T : ASt), (∀ x ∈ as, 0 < 16000001) → (fill p T as).next = T.next ∧ ∀ i, (fill p T as).heap.get i = match T.heap.get i with
    | some o => some o
    | none => sel p as i := by
  intro as
  induction as with
  | nil => intro T _; refine ⟨rfl, fun i => ?_⟩; simp only [fill, sel]; cases T.heap.get i <;> rfl
  | cons x r ih =>
    intro T hb
    obtain ⟨j, id, b⟩ := x
    have hid := hb (j, id, b) (List.mem_cons_self ..)
    have hr : ∀ x ∈ r, 0 < 16000001 := fun x hx => hb x (List.mem_cons_of_mem _ hx)
    simp only [fill]
    split
    · rename_i hp hg
      obtain ⟨h1, h2⟩ := ih (T.put id (.blk b)) hr
      refine ⟨h1, fun i => ?_⟩
      rw [h2 i]
      by_cases hi : id = i
      · subst hi
        simp only [ASt.put, Tr.get_set_self _ _ _ _ (deep hid), hg, sel, hp, and_self, if_true]
      · rw [ASt.get_put_ne _ _ _ _ hi]
        simp only [sel, hi, and_false, if_false]
    · rename_i hne
      obtain ⟨h1, h2⟩ := ih T hr
      refine ⟨h1, fun i => ?_⟩
      rw [h2 i]
      cases hg : T.heap.get i with
      | some o => rfl
      | none =>
        simp only [sel]
        split
        · rename_i hpi
          obtain ⟨hp, rfl⟩ := hpi
          exact absurd hg (hne hp)
        · rfl

theorem sel_none {p : Nat → Bool} : ∀ {as : Made} {i : Nat}, (∀ x ∈ as, x.2.1 ≠ i) → sel p as i = none
  | [], _, _ => rfl
  | (j, id, b) :: r, i, h => by
    have h1 := h (j, id, b) (List.mem_cons_self ..)
    simp only [sel, if_neg (fun e => h1 e.2 : ¬(p j = true ∧ id = i))]
    exact sel_none (fun x hx => h x (List.mem_cons_of_mem _ hx))
theorem sel_some {p : Nat → Bool} : ∀ {as : Made} {i : Nat} {o : AO}, sel p as i = some o → ∃ j b, (j, i, b) ∈ as ∧ p j = true ∧ o = .blk b
  | [], _, _, h => by cases h
  | (j, id, b) :: r, i, o, h => by
    simp only [sel] at h
    split at h
    · rename_i hp
      obtain ⟨hp, rfl⟩ := hp
      injection h with h
      exact ⟨j, b, List.mem_cons_self .., hp, h.symm⟩
    · obtain ⟨j', b', h1, h2, h3⟩ := sel_some h
      exact ⟨j', b', List.mem_cons_of_mem _ h1, h2, h3⟩

theorem Adds.fill {T T' : ASt} {X : Nat → Option AO} (h : Adds T T' X) (hw : WF T) {as : Made} (hid : ∀ x ∈ as, x.2.1 < T.next ∧ X x.2.1 = none) (p : Nat → Bool) : Adds (fill p T as) (fill p T' as) X := by
  have hs : ∀ x ∈ as, 0 < 16000001 := fun x hx => by have := (hid x hx).1; have := hw.room; omega
  obtain ⟨n1, g1⟩ := fill_get p as T hs
  obtain ⟨n2, g2⟩ := fill_get p as T' hs
  refine ⟨by rw [n1, n2, h.next], fun j o hj => ?_, fun j => ?_⟩
  · obtain ⟨h1, h2⟩ := h.free j o hj
    refine ⟨?_, by rw [n1]; exact h2⟩
    rw [g1 j, h1]
    exact sel_none fun x hx e => by have := (hid x hx).2; rw [e] at this; rw [hj] at this; cases this
  · rw [g2 j, g1 j, h.get j]
    cases hx : X j with
    | some o => rfl
    | none => rfl

/-- Keeps, for what lies below a bound. -/
structure KeepB (B : Nat) (s t : ASt) : Prop where
  next : s.next ≤ t.next
  gone : ∀ j, j < B → s.heap.get j = none → t.heap.get j = none
  here : ∀ j, s.heap.get j ≠ none → t.heap.get j ≠ none
  wf : WF t
theorem KeepB.trans {B : Nat} {s t u : ASt} (h : KeepB B s t) (k : KeepB B t u) : KeepB B s u :=
  ⟨Nat.le_trans h.next k.next, fun j hj hn => k.gone j hj (h.gone j hj hn), fun j hj => k.here j (h.here j hj), k.wf⟩
theorem KeepB.refl {B : Nat} {s : ASt} (h : WF s) : KeepB B s s := ⟨Nat.le_refl _, fun _ _ h => h, fun _ h => h, h⟩
theorem Keeps.toB {B : Nat} {s t : ASt} (h : Keeps s t) (hB : B ≤ s.next) : KeepB B s t := ⟨h.next, fun j hj => h.gone j (by omega), h.here, h.wf⟩
theorem KeepB.fill {B : Nat} {T : ASt} (hw : WF T) {as : Made} (hid : ∀ x ∈ as, B ≤ x.2.1 ∧ x.2.1 < T.next) (p : Nat → Bool) : KeepB B T (fill p T as) := by
  have hs : ∀ x ∈ as, 0 < 16000001 := fun x hx => by have := (hid x hx).2; have := hw.room; omega
  obtain ⟨n1, g1⟩ := fill_get p as T hs
  refine ⟨by rw [n1]; exact Nat.le_refl _, fun j hj hn => ?_, fun j hj => ?_, ⟨hw.room, fun j o hj => ?_⟩⟩
  · rw [g1 j, hn]
    exact sel_none fun x hx e => by have := (hid x hx).1; omega
  · rw [g1 j]
    cases hg : T.heap.get j with
    | none => exact absurd hg hj
    | some o => simp
  · rw [g1 j] at hj
    rw [n1]
    cases hg : T.heap.get j with
    | some o => exact hw.bound j o hg
    | none =>
      rw [hg] at hj
      obtain ⟨j', b, h1, _, _⟩ := sel_some hj
      exact (hid _ h1).2

/-! The trial. -/
def EvR (X : Nat → Option AO) (B : Nat) (T : ASt) : Ev → Ev → Prop
  | .skip, .skip => True
  | .quiet v, .quiet u => v = u
  | .made v i b, .made v' i' b' => v = v' ∧ i = i' ∧ b = b'
  | .eff v s, .eff v' s' => v = v' ∧ Adds s s' X ∧ KeepB B T s
  | _, _ => False

theorem drawOp_fr {P : Program} {call : Call} (hc : CallFr call) {all : List Oper} {m id : Nat} {as : Made} {o : Oper} {f : AFr} {T T' : ASt} {X : Nat → Option AO} {B : Nat} {e : Ev}
    (h : Adds T T' X) (hw : WF T) (hB : B ≤ T.next) (hid : ∀ x ∈ as, B ≤ x.2.1 ∧ x.2.1 < T.next ∧ X x.2.1 = none) (hd : drawOp P call all m id as o f T = some e) :
    ∃ e', drawOp P call all m id as o f T' = some e' ∧ EvR X B T e e' := by
  have hf := h.fill hw (fun x hx => (hid x hx).2) (Nat.testBit m)
  have kf := KeepB.fill (B := B) hw (fun x hx => ⟨(hid x hx).1, (hid x hx).2.1⟩) (Nat.testBit m)
  have hBn : B ≤ (fill (Nat.testBit m) T as).next := Nat.le_trans hB kf.next
  unfold drawOp at *
  split at hd
  · injection hd with hd; subst hd; exact ⟨.skip, rfl, trivial⟩
  · split at hd
    · rename_i hq
      split at hd
      · rename_i v t hop
        injection hd with hd; subst hd
        obtain ⟨t', k1, _, _⟩ := aop_fr hf kf.wf hop
        exact ⟨.quiet v, by simp only [k1], rfl⟩
      · cases hd
    · exact ⟨e, hd, by
        split at hd
        · split at hd
          · injection hd with hd; subst hd; exact ⟨rfl, rfl, rfl⟩
          · cases hd
        · cases hd⟩
    · split at hd
      · rename_i v t hop
        injection hd with hd; subst hd
        obtain ⟨t', k1, k2, k3⟩ := aop_fr hf kf.wf hop
        exact ⟨.eff v t', by simp only [k1], rfl, k2, kf.trans (k3.toB hBn)⟩
      · rename_i g args hop
        have k1 := aop_fr hf kf.wf hop
        simp only [FrAR] at k1
        split at hd
        · rename_i v t hcl
          injection hd with hd; subst hd
          obtain ⟨t1, c1, c2, c3⟩ := hc _ _ _ _ _ _ _ hf kf.wf hcl
          exact ⟨.eff v t1, by simp only [k1, c1], rfl, c2, kf.trans (c3.toB hBn)⟩
        · cases hd
      · cases hd

theorem EvR.val {X : Nat → Option AO} {B : Nat} {T : ASt} {e e' : Ev} (h : EvR X B T e e') : e'.val = e.val := by
  cases e <;> cases e' <;> simp_all [EvR, Ev.val]

/-- The same, but for the states. -/
def EvS : Ev → Ev → Prop
  | .skip, .skip => True
  | .quiet v, .quiet u => v = u
  | .made v i b, .made v' i' b' => v = v' ∧ i = i' ∧ b = b'
  | .eff v _, .eff v' _ => v = v'
  | _, _ => False
def EsS : List Ev → List Ev → Prop
  | [], [] => True
  | e :: r, e' :: r' => EvS e e' ∧ EsS r r'
  | _, _ => False
def StR (X : Nat → Option AO) (B : Nat) (T : ASt) : List ASt → List ASt → Prop
  | [], [] => True
  | s :: r, s' :: r' => (Adds s s' X ∧ KeepB B T s) ∧ StR X B T r r'
  | _, _ => False
theorem StR.mono {X : Nat → Option AO} {B : Nat} {T U : ASt} (h : KeepB B T U) : ∀ {l l' : List ASt}, StR X B U l l' → StR X B T l l'
  | [], [], _ => trivial
  | _ :: _, _ :: _, ⟨⟨h1, h2⟩, h3⟩ => ⟨⟨h1, h.trans h2⟩, StR.mono h h3⟩
  | [], _ :: _, k => k
  | _ :: _, [], k => k
theorem StR.take {X : Nat → Option AO} {B : Nat} {T : ASt} : ∀ (n : Nat) {l l' : List ASt}, StR X B T l l' → StR X B T (l.take n) (l'.take n)
  | 0, _, _, _ => trivial
  | _ + 1, [], [], _ => trivial
  | n + 1, _ :: _, _ :: _, ⟨h1, h2⟩ => ⟨h1, StR.take n h2⟩
  | _ + 1, [], _ :: _, k => k
  | _ + 1, _ :: _, [], k => k
theorem StR.drop {X : Nat → Option AO} {B : Nat} {T : ASt} : ∀ (n : Nat) {l l' : List ASt}, StR X B T l l' → StR X B T (l.drop n) (l'.drop n)
  | 0, _, _, h => h
  | _ + 1, [], [], _ => trivial
  | n + 1, _ :: _, _ :: _, ⟨_, h2⟩ => StR.drop n h2
  | _ + 1, [], _ :: _, k => k.elim
  | _ + 1, _ :: _, [], k => k.elim
theorem StR.last {X : Nat → Option AO} {B : Nat} {T : ASt} : ∀ {l l' : List ASt} {d d' : ASt}, StR X B T l l' → Adds d d' X → KeepB B T d → Adds (l.getLastD d) (l'.getLastD d') X ∧ KeepB B T (l.getLastD d)
  | [], [], _, _, _, h, k => ⟨h, k⟩
  | s :: r, s' :: r', d, d', ⟨h1, h2⟩, _, _ => by
    rw [List.getLastD_cons, List.getLastD_cons]
    exact StR.last h2 h1.1 h1.2
  | [], _ :: _, _, _, k, _, _ => k.elim
  | _ :: _, [], _, _, k, _, _ => k.elim

theorem drawOps_fr {P : Program} {call : Call} (hc : CallFr call) {all : List Oper} {X : Nat → Option AO} {B : Nat} (hX : ∀ j o, X j = some o → j < B) : ∀ (ms : List Nat) (ops : List Oper) (i id : Nat) (f : AFr) (T T' : ASt) (as : Made) (es : List Ev),
    Adds T T' X → WF T → B ≤ id → id + allocs P ops ≤ T.next → (∀ x ∈ as, B ≤ x.2.1 ∧ x.2.1 < T.next) → drawOps P call all ms ops i id f T as = some es →
    ∃ es', drawOps P call all ms ops i id f T' as = some es' ∧ EsS es es' ∧ StR X B T (stagesOf P ops es T) (stagesOf P ops es' T') ∧ ∀ x ∈ madeOf es i, B ≤ x.2.1 ∧ x.2.1 < id + allocs P ops := by
  intro ms
  induction ms with
  | nil =>
    intro ops i id f T T' as es h hw _ _ _ hd
    cases ops <;> (simp only [drawOps] at hd ⊢; injection hd with hd; subst hd; exact ⟨[], rfl, trivial, ⟨⟨h, KeepB.refl hw⟩, trivial⟩, fun x hx => by cases hx⟩)
  | cons m ms ih =>
    intro ops i id f T T' as es h hw hB hn has hd
    cases ops with
    | nil => simp only [drawOps] at hd ⊢; injection hd with hd; subst hd; exact ⟨[], rfl, trivial, ⟨⟨h, KeepB.refl hw⟩, trivial⟩, fun x hx => by cases hx⟩
    | cons o ops =>
      simp only [drawOps] at hd ⊢
      have hXn : ∀ k, B ≤ k → X k = none := fun k hk => by
        cases hx : X k with
        | none => rfl
        | some o => have := hX k o hx; omega
      split at hd
      · rename_i e he
        split at hd
        · rename_i f' hp
          split at hd
          · rename_i es1 hd1
            injection hd with hd; subst hd
            have hBT : B ≤ T.next := by omega
            obtain ⟨e', he', hr⟩ := drawOp_fr hc h hw hBT (fun x hx => ⟨(has x hx).1, (has x hx).2, hXn _ (has x hx).1⟩) he
            rw [he']
            simp only [hr.val, hp]
            have hmk : ∀ v d b, e = .made v d b → d = id ∧ allocOp P o = true := by
              intro v d b hee
              subst hee
              unfold drawOp at he
              split at he
              · cases he
              · split at he
                · split at he <;> cases he
                · rename_i _ ha
                  split at he
                  · split at he
                    · injection he with he; injection he with _ e2 _; exact ⟨e2.symm, ha⟩
                    · cases he
                  · cases he
                · split at he
                  · cases he
                  · split at he <;> cases he
                  · cases he
            have hal : allocs P (o :: ops) = if allocOp P o then allocs P ops + 1 else allocs P ops := rfl
            have hB1 : B ≤ (if allocOp P o then id + 1 else id) := by split <;> omega
            have hsum : (if allocOp P o then id + 1 else id) + allocs P ops = id + allocs P (o :: ops) := by rw [hal]; split <;> omega
            have hs1 : ∀ {x : Nat × Nat × Blk}, (B ≤ x.2.1 ∧ x.2.1 < (if allocOp P o then id + 1 else id) + allocs P ops) → B ≤ x.2.1 ∧ x.2.1 < id + allocs P (o :: ops) := fun h => ⟨h.1, by rw [← hsum]; exact h.2⟩
            cases e with
            | skip =>
              cases e' <;> try exact hr.elim
              obtain ⟨es', j1, j2, j3, j4⟩ := ih ops (i + 1) _ f' T T' as es1 h hw hB1 (by rw [hsum]; exact hn) has hd1
              simp only [j1]
              refine ⟨_, rfl, ⟨trivial, j2⟩, ?_, fun x hx => hs1 (j4 x hx)⟩
              simp only [stagesOf]
              split
              · exact ⟨⟨h, KeepB.refl hw⟩, j3⟩
              · exact j3
            | quiet v =>
              cases e' <;> try exact hr.elim
              obtain ⟨es', j1, j2, j3, j4⟩ := ih ops (i + 1) _ f' T T' as es1 h hw hB1 (by rw [hsum]; exact hn) has hd1
              simp only [j1]
              refine ⟨_, rfl, ⟨hr, j2⟩, ?_, fun x hx => hs1 (j4 x hx)⟩
              simp only [stagesOf]
              split
              · exact ⟨⟨h, KeepB.refl hw⟩, j3⟩
              · exact j3
            | made v d b =>
              cases e' <;> try exact hr.elim
              obtain ⟨rfl, rfl, rfl⟩ := hr
              obtain ⟨rfl, ha⟩ := hmk v d b rfl
              have hnew2 : d < d + allocs P (o :: ops) := by rw [hal, if_pos ha]; omega
              have hnew : B ≤ d ∧ d < T.next := ⟨hB, by omega⟩
              obtain ⟨es', j1, j2, j3, j4⟩ := ih ops (i + 1) _ f' T T' (as ++ [(i, d, b)]) es1 h hw hB1 (by rw [hsum]; exact hn) (fun x hx => by
                rcases List.mem_append.1 hx with h' | h'
                · exact has x h'
                · obtain rfl := List.mem_singleton.1 h'; exact hnew) hd1
              simp only [j1]
              refine ⟨_, rfl, ⟨⟨rfl, rfl, rfl⟩, j2⟩, ?_, fun x hx => ?_⟩
              · simp only [stagesOf]
                split
                · exact ⟨⟨h, KeepB.refl hw⟩, j3⟩
                · exact j3
              · simp only [madeOf] at hx
                rcases List.mem_cons.1 hx with rfl | hx
                · exact ⟨hB, hnew2⟩
                · exact hs1 (j4 x hx)
            | eff v s =>
              cases e' <;> try exact hr.elim
              rename_i v' s'
              obtain ⟨rfl, hr1, hr2⟩ := hr
              have hn2 : T.next ≤ s.next := hr2.next
              obtain ⟨es', j1, j2, j3, j4⟩ := ih ops (i + 1) _ f' s s' as es1 hr1 hr2.wf hB1 (by rw [hsum]; omega) (fun x hx => ⟨(has x hx).1, by have := (has x hx).2; omega⟩) hd1
              simp only [j1]
              refine ⟨_, rfl, ⟨rfl, j2⟩, ?_, fun x hx => hs1 (j4 x hx)⟩
              simp only [stagesOf]
              exact ⟨⟨h, KeepB.refl hw⟩, j3.mono hr2⟩
          · cases hd
        · cases hd
      · cases hd

theorem madeOf_eq : ∀ {es es' : List Ev} (i : Nat), EsS es es' → madeOf es' i = madeOf es i
  | [], [], _, _ => rfl
  | e :: r, e' :: r', i, ⟨h1, h2⟩ => by
    have := madeOf_eq (i + 1) h2
    cases e <;> cases e' <;> first
      | exact h1.elim
      | (obtain ⟨rfl, rfl, rfl⟩ := h1; simp only [madeOf, this])
      | simp only [madeOf, this]
  | [], _ :: _, _, h => h.elim
  | _ :: _, [], _, h => h.elim
theorem EvS.val {e e' : Ev} (h : EvS e e') : e'.val = e.val := by
  cases e <;> cases e' <;> simp_all [EvS, Ev.val]
theorem framesOf_eq : ∀ {es es' : List Ev} (ops : List Oper) (f : AFr), EsS es es' → framesOf ops es' f = framesOf ops es f
  | [], [], ops, f, _ => rfl
  | e :: r, e' :: r', [], f, _ => rfl
  | e :: r, e' :: r', o :: ops, f, ⟨h1, h2⟩ => by
    simp only [framesOf, h1.val]
    cases putD f o.dst e.val with
    | none => rfl
    | some f' => exact framesOf_eq ops f' h2
  | [], _ :: _, _, _, h => h.elim
  | _ :: _, [], _, _, h => h.elim

theorem sameAt_fr {P : Program} {m : Nat} {as : Made} {o : Oper} {f : AFr} {v : Value} {X : Nat → Option AO} {B : Nat} {T : ASt} (hid : ∀ x ∈ as, B ≤ x.2.1 ∧ x.2.1 < T.next ∧ X x.2.1 = none) : ∀ {l l' : List ASt}, StR X B T l l' → sameAt P m as o f v l = true → sameAt P m as o f v l' = true
  | [], [], _, h => h
  | s :: r, s' :: r', ⟨⟨h1, h2⟩, h3⟩, h => by
    have hid' : ∀ x ∈ as, B ≤ x.2.1 ∧ x.2.1 < s.next ∧ X x.2.1 = none := fun x hx => ⟨(hid x hx).1, by have := (hid x hx).2.1; have := h2.next; omega, (hid x hx).2.2⟩
    have hf := h1.fill h2.wf (fun x hx => (hid' x hx).2) (Nat.testBit m)
    have kf := KeepB.fill (B := B) h2.wf (fun x hx => ⟨(hid' x hx).1, (hid' x hx).2.1⟩) (Nat.testBit m)
    simp only [sameAt] at h ⊢
    split at h
    · rename_i u t hop
      obtain ⟨t', k1, _, _⟩ := aop_fr hf kf.wf hop
      simp only [k1]
      rw [Bool.and_eq_true] at h ⊢
      exact ⟨h.1, sameAt_fr hid h3 h.2⟩
    · cases h
  | [], _ :: _, h, _ => h.elim
  | _ :: _, [], h, _ => h.elim

theorem checkAll_fr {P : Program} {all : List Oper} {ms : List Nat} {as : Made} {X : Nat → Option AO} {B : Nat} {T : ASt} (hid : ∀ x ∈ as, B ≤ x.2.1 ∧ x.2.1 < T.next ∧ X x.2.1 = none) {l l' : List ASt} (hst : StR X B T l l') :
    ∀ (mr : List Nat) (ops : List Oper) (es es' : List Ev) (i : Nat) (f : AFr), EsS es es' → checkAll P all ms as l mr ops es i f = true → checkAll P all ms as l' mr ops es' i f = true := by
  intro mr
  induction mr with
  | nil => intro ops es es' i f _ h; simp only [checkAll]
  | cons m mr ih =>
    intro ops es es' i f hes h
    cases ops with
    | nil => simp only [checkAll]
    | cons o ops =>
      cases es with
      | nil => cases es' with
        | nil => exact h
        | cons _ _ => exact hes.elim
      | cons e es =>
        cases es' with
        | nil => exact hes.elim
        | cons e' es' =>
          obtain ⟨h1, h2⟩ := hes
          simp only [checkAll, Bool.and_eq_true] at h ⊢
          rw [h1.val]
          obtain ⟨ha, hb⟩ := h
          refine ⟨?_, ?_⟩
          · cases e <;> cases e' <;> first
              | exact h1.elim
              | rfl
              | skip
            rename_i v v'
            obtain rfl : v = v' := h1
            exact sameAt_fr hid ((hst.take _).drop _) ha
          · cases hp : putD f o.dst e.val with
            | none => rw [hp] at hb; cases hb
            | some f' => rw [hp] at hb; exact ih ops es es' (i + 1) f' h2 hb

theorem Adds.up {s s' : ASt} {X : Nat → Option AO} (h : Adds s s' X) (n : Nat) : Adds ⟨s.heap, s.next + n⟩ ⟨s'.heap, s'.next + n⟩ X :=
  ⟨by simp only [h.next], fun j o hj => ⟨(h.free j o hj).1, by have := (h.free j o hj).2; simp only; omega⟩, h.get⟩

theorem drawRun_fr {P : Program} {call : Call} (hc : CallFr call) {ops : List Oper} {f f1 : AFr} {s s' t : ASt} {X : Nat → Option AO} (h : Adds s s' X) (hw : WF s) (hr : drawRun P call ops f s = some (f1, t)) :
    ∃ t', drawRun P call ops f s' = some (f1, t') ∧ Adds t t' X ∧ Keeps s t := by
  unfold drawRun at *
  rw [h.next]
  split at hr
  · cases hr
  rename_i hle
  split at hr
  case h_2 => cases hr
  rename_i es hd
  split at hr
  case h_2 => cases hr
  rename_i hck
  injection hr with hr; injection hr with e1 e2; subst e1; subst e2
  have hle' : 0 ≤ 16000000 := by omega
  have hwu : WF ⟨s.heap, s.next + allocs P ops⟩ := ⟨hle', fun j o hj => by have := hw.bound j o hj; simp only; omega⟩
  have hup := h.up (allocs P ops)
  rw [h.next] at hup
  have hX : ∀ j o, X j = some o → j < s.next := fun j o hj => (h.free j o hj).2
  obtain ⟨es', k1, k2, k3, k4⟩ := drawOps_fr hc hX _ ops 0 s.next f _ _ [] es hup hwu (Nat.le_refl _) (Nat.le_refl _) (fun x hx => by cases hx) hd
  have hXn : ∀ k, s.next ≤ k → X k = none := fun k hk => by
    cases hx : X k with
    | none => rfl
    | some o => have := hX k o hx; omega
  have hid : ∀ x ∈ madeOf es 0, s.next ≤ x.2.1 ∧ x.2.1 < (⟨s.heap, s.next + allocs P ops⟩ : ASt).next ∧ X x.2.1 = none := fun x hx => ⟨(k4 x hx).1, (k4 x hx).2, hXn _ (k4 x hx).1⟩
  simp only [k1, madeOf_eq 0 k2, checkAll_fr hid k3 _ ops es es' 0 f k2 hck, framesOf_eq ops f k2]
  have hlen : ∀ (ops : List Oper) (es : List Ev) (T : ASt), stagesOf P ops es T ≠ [] := by
    intro ops
    induction ops with
    | nil => intro es T; cases es <;> simp [stagesOf]
    | cons o ops ih =>
      intro es T
      cases es with
      | nil => simp [stagesOf]
      | cons e es =>
        simp only [stagesOf]
        cases e <;> first
          | (simp; done)
          | (dsimp only; split <;> first | (simp; done) | exact ih _ _)
  obtain ⟨a1, a2⟩ : Adds ((stagesOf P ops es ⟨s.heap, s.next + allocs P ops⟩).getLastD s) ((stagesOf P ops es' ⟨s'.heap, s.next + allocs P ops⟩).getLastD s') X ∧ KeepB s.next ⟨s.heap, s.next + allocs P ops⟩ ((stagesOf P ops es ⟨s.heap, s.next + allocs P ops⟩).getLastD s) := by
    have := hlen ops es ⟨s.heap, s.next + allocs P ops⟩
    have := hlen ops es' ⟨s'.heap, s.next + allocs P ops⟩
    generalize stagesOf P ops es ⟨s.heap, s.next + allocs P ops⟩ = l at *
    generalize stagesOf P ops es' ⟨s'.heap, s.next + allocs P ops⟩ = l' at *
    cases l with
    | nil => contradiction
    | cons x r =>
      cases l' with
      | nil => contradiction
      | cons x' r' =>
        rw [List.getLastD_cons, List.getLastD_cons]
        exact StR.last k3.2 k3.1.1 k3.1.2
  have hid2 : ∀ x ∈ madeOf es 0, s.next ≤ x.2.1 ∧ x.2.1 < ((stagesOf P ops es ⟨s.heap, s.next + allocs P ops⟩).getLastD s).next := fun x hx => ⟨(hid x hx).1, Nat.lt_of_lt_of_le (hid x hx).2.1 a2.next⟩
  refine ⟨_, rfl, a1.fill a2.wf (fun x hx => ⟨(hid2 x hx).2, (hid x hx).2.2⟩) _, ?_⟩
  have kk := a2.trans (KeepB.fill a2.wf hid2 (fun _ => true))
  exact ⟨Nat.le_trans (Nat.le_add_right _ _) kk.next, kk.gone, kk.here, kk.wf⟩

/-! Code. -/
def ExecFr (ex : Code → AFr → ASt → Out) : Prop := ∀ (c : Code) (f f1 : AFr) (x : AX) (s s' t : ASt) (X : Nat → Option AO), Adds s s' X → WF s → ex c f s = some (x, f1, t) → ∃ t', ex c f s' = some (x, f1, t') ∧ Adds t t' X ∧ Keeps s t

theorem resultsA_fr {P : Program} {f : AFr} {s s' : ASt} {X : Nat → Option AO} (h : Adds s s' X) : ∀ {l : List ResultVar} {vs : List Value}, resultsA P f s l = some vs → resultsA P f s' l = some vs := by
  intro l
  induction l with
  | nil => intro vs hv; exact hv
  | cons r l ih =>
    intro vs hv
    cases r with
    | tmp t =>
      simp only [resultsA] at hv ⊢
      split at hv
      · rename_i ht
        rw [if_pos ht]
        split at hv
        · rename_i m hm; rw [ih hm]; exact hv
        · cases hv
      · cases hv
    | cell a t =>
      simp only [resultsA] at hv ⊢
      split at hv
      · rename_i ht
        rw [if_pos ht]
        split at hv
        · rename_i v m h1 h2; rw [loadA_fr h h1, ih h2]; exact hv
        · cases hv
      · cases hv

def PrimFr (p : Prim) : Prop := ∀ (s s' : ASt) (X : Nat → Option AO) (args : List Value) (v : Value) (t : ASt), Adds s s' X → WF s → p args s = some (v, t) → ∃ t', p args s' = some (v, t') ∧ Adds t t' X ∧ Keeps s t
def LibFr (lib : Prims) : Prop := ∀ g p, lib.at g = some p → PrimFr p
theorem LibFr.nil : LibFr [] := fun _ _ h => by cases h

theorem callStep_fr {P : Program} {lib : Prims} (hl : LibFr lib) {ex : Code → AFr → ASt → Out} (he : ExecFr ex) : CallFr (callStep P lib ex) := by
  intro s s' X g args v t h hw hc
  unfold callStep at *
  split at hc
  · rename_i p hp
    exact hl g p hp _ _ _ _ _ _ h hw hc
  split at hc
  case h_2 => cases hc
  split at hc
  case h_2 => cases hc
  split at hc
  · rename_i f s1 hx
    obtain ⟨t', k1, k2, k3⟩ := he _ _ _ _ _ _ _ _ h hw hx
    simp only [k1]
    split at hc
    · rename_i l hl
      injection hc with hc; injection hc with e1 e2; subst e1; subst e2
      exact ⟨t', by rw [resultsA_fr k2 hl], k2, k3⟩
    · cases hc
  · rename_i f s1 hx
    obtain ⟨t', k1, k2, k3⟩ := he _ _ _ _ _ _ _ _ h hw hx
    simp only [k1]
    split at hc
    · rename_i l hl
      injection hc with hc; injection hc with e1 e2; subst e1; subst e2
      exact ⟨t', by rw [resultsA_fr k2 hl], k2, k3⟩
    · cases hc
  · cases hc

theorem exec_fr {P : Program} {lib : Prims} (hl : LibFr lib) : ∀ n, ExecFr (exec P lib n) := by
  intro n
  induction n with
  | zero => intro c f f1 x s s' t X _ _ h; simp [exec] at h
  | succ n ih =>
    have hc := callStep_fr (P := P) hl ih
    intro c f f1 x s s' t X h hw hx
    have leaf : ∀ y, some (y, f, s) = some (x, f1, t) → ∃ t', some (y, f, s') = some (x, f1, t') ∧ Adds t t' X ∧ Keeps s t := by
      intro y e
      injection e with e; injection e with e1 e2; injection e2 with e2 e3; subst e1; subst e2; subst e3
      exact ⟨s', rfl, h, Keeps.refl hw⟩
    have two : ∀ (a b : Code), (match exec P lib n a f s with
        | some (.normal, f', s') => exec P lib n b f' s'
        | r => r) = some (x, f1, t) → ∃ t', (match exec P lib n a f s' with
        | some (.normal, f', s') => exec P lib n b f' s'
        | r => r) = some (x, f1, t') ∧ Adds t t' X ∧ Keeps s t := by
      intro a b hx
      split at hx
      · rename_i f2 s2 h1
        obtain ⟨t2, k1, k2, k3⟩ := ih _ _ _ _ _ _ _ _ h hw h1
        obtain ⟨t', j1, j2, j3⟩ := ih _ _ _ _ _ _ _ _ k2 k3.wf hx
        exact ⟨t', by simp only [k1]; exact j1, j2, k3.trans j3⟩
      · rename_i hn
        obtain ⟨t', k1, k2, k3⟩ := ih _ _ _ _ _ _ _ _ h hw hx
        refine ⟨t', ?_, k2, k3⟩
        rw [k1]
        cases x with
        | normal => exact absurd hx (hn _ _)
        | exit _ => rfl
        | ret => rfl
    cases c <;> simp only [exec, step] at hx ⊢
    case skip => exact leaf _ hx
    case label l => exact leaf _ hx
    case exit id => exact leaf _ hx
    case ret => exact leaf _ hx
    case region id ops d =>
      cases d with
      | false =>
        simp only at hx ⊢
        split at hx
        · rename_i f2 s2 h1
          injection hx with e; injection e with e1 e2; injection e2 with e2 e3; subst e1; subst e2; subst e3
          obtain ⟨t', k1, k2, k3⟩ := runOps_fr hc _ _ h hw h1
          exact ⟨t', by rw [k1], k2, k3⟩
        · cases hx
      | true =>
        simp only at hx ⊢
        split at hx
        · rename_i f2 s2 h1
          injection hx with e; injection e with e1 e2; injection e2 with e2 e3; subst e1; subst e2; subst e3
          obtain ⟨t', k1, k2, k3⟩ := drawRun_fr hc h hw h1
          exact ⟨t', by rw [k1], k2, k3⟩
        · cases hx
    case seq a b => exact two a b hx
    case loop a => exact two a _ hx
    case scope a => exact ih _ _ _ _ _ _ _ _ h hw hx
    case cond y a b =>
      split at hx
      · rename_i b0 hy
        split at hx <;> exact ih _ _ _ _ _ _ _ _ h hw hx
      · cases hx
    case block id a =>
      split at hx
      · rename_i j f2 s2 h1
        obtain ⟨t2, k1, k2, k3⟩ := ih _ _ _ _ _ _ _ _ h hw h1
        simp only [k1]
        split at hx <;>
        · rename_i hj
          injection hx with e; injection e with e1 e2; injection e2 with e2 e3; subst e1; subst e2; subst e3
          exact ⟨t2, by simp only [hj, if_true, if_false, Bool.false_eq_true], k2, k3⟩
      · rename_i hn
        obtain ⟨t', k1, k2, k3⟩ := ih _ _ _ _ _ _ _ _ h hw hx
        refine ⟨t', ?_, k2, k3⟩
        rw [k1]
        cases x with
        | normal => rfl
        | exit _ => exact absurd hx (hn _ _ _)
        | ret => rfl
    all_goals cases hx

theorem acall_fr {P : Program} {lib : Prims} (hl : LibFr lib) (n : Nat) : CallFr (acall P lib n) := callStep_fr hl (exec_fr hl n)

end Go.Cl
