/-
  The clean machine: a statement whose order is open, in which new blocks are made ahead of effects that do not wait for them: a block is put into the memory where the first effect that waits for it is run, or at the end.
-/
import Derived.Test.YtpdkppimlcbhlaaAgg
namespace Go.Cl
namespace LP
def hasN : List Nat → Nat → Bool
  | [], _ => false
  | a :: r, k => (a == k) || hasN r k
/-- Those that are waited for are put into the memory. -/
def sT (p : Nat → Bool) : ASt → List (Nat × Nat × Blk) → ASt
  | T, [] => T
  | T, (j, id, b) :: r => if p j = true then sT p (T.put id (.blk b)) r else sT p T r
/-- Those that are left. -/
def sP (p : Nat → Bool) : List (Nat × Nat × Blk) → List (Nat × Nat × Blk)
  | [] => []
  | (j, id, b) :: r => if p j = true then sP p r else (j, id, b) :: sP p r
theorem sT_nil (p : Nat → Bool) (T : ASt) : sT p T [] = T := rfl
theorem sT_cons (p : Nat → Bool) (T : ASt) (j id : Nat) (b : Blk) (r : List (Nat × Nat × Blk)) : sT p T ((j, id, b) :: r) = if p j = true then sT p (T.put id (.blk b)) r else sT p T r := rfl
theorem sP_nil (p : Nat → Bool) : sP p [] = [] := rfl
theorem sP_cons (p : Nat → Bool) (j id : Nat) (b : Blk) (r : List (Nat × Nat × Blk)) : sP p ((j, id, b) :: r) = if p j = true then sP p r else (j, id, b) :: sP p r := rfl
theorem hasN_nil (k : Nat) : hasN [] k = false := rfl
theorem hasN_cons (a : Nat) (r : List Nat) (k : Nat) : hasN (a :: r) k = ((a == k) || hasN r k) := rfl
/-! In the text's order. -/
def wopsS (P : Program) (lib : Prims) (A : Nat → Bool) (all : List Oper) : List Oper → List (List Nat) → Nat → Nat → Nat → AFr → ASt → List (Nat × Nat × Blk) → (AFr → ASt → Prop) → Prop
  | [], _, _, _, _, f, T, pd, Q => Q f (sT (fun _ => true) T pd)
  | o :: r, ps, g, i, id, f, T, pd, Q =>
    match wantedA all o f with
    | true =>
      match quietOp P o, allocOp P o with
      | true, _ =>
        match aop P o f T with
        | some (.val v _) => LA.lowO o f A = true ∧ valEq v v = true ∧ wput f o.dst v fun f' => wopsS P lib A all r ps g (i + 1) id f' T pd Q
        | _ => False
      | false, true =>
        match valloc id (aop P o f ⟨.nil, id⟩) with
        | some (v, bl) => wput f o.dst v fun f' => wopsS P lib A all r ps g (i + 1) (id + 1) f' T (pd ++ [(i, id, bl)]) Q
        | none => False
      | false, false =>
        match aop P o f (sT (hasN (ps.headD [])) T pd) with
        | some (.val v T') => (g ≠ 0 → LA.StayA A (sT (hasN (ps.headD [])) T pd) T') ∧ wput f o.dst v fun f' => wopsS P lib A all r ps.tail (g - 1) (i + 1) id f' T' (sP (hasN (ps.headD [])) pd) Q
        | some (.call gg args) => Runs P lib gg args (sT (hasN (ps.headD [])) T pd) fun v T' => (g ≠ 0 → LA.StayA A (sT (hasN (ps.headD [])) T pd) T') ∧ wput f o.dst v fun f' => wopsS P lib A all r ps.tail (g - 1) (i + 1) id f' T' (sP (hasN (ps.headD [])) pd) Q
        | none => False
    | false => wput f o.dst undef fun f' => wopsS P lib A all r (if effectOp P o then ps.tail else ps) (if effectOp P o then g - 1 else g) (i + 1) (if allocOp P o then id + 1 else id) f' T pd Q
def slook (P : Program) (lib : Prims) (A : Nat → Bool) (ps : List (List Nat)) (g i : Nat) (all : List Oper) (o : Oper) (r : List Oper) (id : Nat) (f : AFr) (T : ASt) (pd : List (Nat × Nat × Blk)) (Q : AFr → ASt → Prop) : Option AR → Prop
  | some (.val v _) => LA.lowO o f A = true ∧ valEq v v = true ∧ wput f o.dst v fun f' => wopsS P lib A all r ps g (i + 1) id f' T pd Q
  | _ => False
def smake (P : Program) (lib : Prims) (A : Nat → Bool) (ps : List (List Nat)) (g i : Nat) (all r : List Oper) (id : Nat) (f : AFr) (T : ASt) (pd : List (Nat × Nat × Blk)) (d : Option Tmp) (Q : AFr → ASt → Prop) : Option (Value × Blk) → Prop
  | some (v, bl) => wput f d v fun f' => wopsS P lib A all r ps g (i + 1) (id + 1) f' T (pd ++ [(i, id, bl)]) Q
  | none => False
/-- T: the memory that the effect is run in. -/
def sstep (P : Program) (lib : Prims) (A : Nat → Bool) (ps : List (List Nat)) (g i : Nat) (all r : List Oper) (id : Nat) (f : AFr) (d : Option Tmp) (T : ASt) (pd : List (Nat × Nat × Blk)) (Q : AFr → ASt → Prop) : Option AR → Prop
  | some (.val v T') => (g ≠ 0 → LA.StayA A T T') ∧ wput f d v fun f' => wopsS P lib A all r ps (g - 1) (i + 1) id f' T' pd Q
  | some (.call gg args) => Runs P lib gg args T fun v T' => (g ≠ 0 → LA.StayA A T T') ∧ wput f d v fun f' => wopsS P lib A all r ps (g - 1) (i + 1) id f' T' pd Q
  | none => False
def scall (P : Program) (lib : Prims) (A : Nat → Bool) (ps : List (List Nat)) (g i : Nat) (all r : List Oper) (id : Nat) (f : AFr) (d : Option Tmp) (pd : List (Nat × Nat × Blk)) (Q : AFr → ASt → Prop) (v : Value) (T' : ASt) : Prop := wput f d v fun f' => wopsS P lib A all r ps g (i + 1) id f' T' pd Q
def swant (P : Program) (lib : Prims) (A : Nat → Bool) (ps : List (List Nat)) (g i : Nat) (all : List Oper) (o : Oper) (r : List Oper) (id : Nat) (f : AFr) (T : ASt) (pd : List (Nat × Nat × Blk)) (Q : AFr → ASt → Prop) : Bool → Prop
  | true => bif quietOp P o then slook P lib A ps g i all o r id f T pd Q (aop P o f T) else bif allocOp P o then smake P lib A ps g i all r id f T pd o.dst Q (valloc id (aop P o f ⟨.nil, id⟩)) else sstep P lib A ps.tail g i all r id f o.dst (sT (hasN (ps.headD [])) T pd) (sP (hasN (ps.headD [])) pd) Q (aop P o f (sT (hasN (ps.headD [])) T pd))
  | false => wput f o.dst undef fun f' => wopsS P lib A all r (if effectOp P o then ps.tail else ps) (if effectOp P o then g - 1 else g) (i + 1) (if allocOp P o then id + 1 else id) f' T pd Q
section
variable (P : Program) (lib : Prims) (A : Nat → Bool) (all : List Oper) (r : List Oper) (ps : List (List Nat)) (g i id : Nat) (f : AFr) (T : ASt) (pd : List (Nat × Nat × Blk)) (Q : AFr → ASt → Prop)
theorem wopsS_nil : wopsS P lib A all [] ps g i id f T pd Q = Q f (sT (fun _ => true) T pd) := by simp only [wopsS]
theorem wopsS_cons (o : Oper) : wopsS P lib A all (o :: r) ps g i id f T pd Q = swant P lib A ps g i all o r id f T pd Q (wantedA all o f) := by
  simp only [wopsS]
  cases wantedA all o f with
  | false => rfl
  | true =>
    simp only [swant]
    cases quietOp P o with
    | true =>
      simp only [cond_true]
      cases aop P o f T with
      | none => rfl
      | some a => cases a <;> rfl
    | false =>
      cases allocOp P o with
      | true =>
        simp only [cond_true, cond_false]
        cases valloc id (aop P o f ⟨.nil, id⟩) with
        | none => rfl
        | some a => rfl
      | false =>
        simp only [cond_false]
        cases aop P o f (sT (hasN (ps.headD [])) T pd) with
        | none => rfl
        | some a => cases a <;> rfl
variable (d : Option Tmp) (ty : TypeId) (pos : String) (af : Array Edge) (gd : Option (Nat × Bool))
theorem swant_ite (o : Oper) : swant P lib A ps g i all o r id f T pd Q true = if quietOp P o = true then slook P lib A ps g i all o r id f T pd Q (aop P o f T) else if allocOp P o = true then smake P lib A ps g i all r id f T pd o.dst Q (valloc id (aop P o f ⟨.nil, id⟩)) else sstep P lib A ps.tail g i all r id f o.dst (sT (hasN (ps.headD [])) T pd) (sP (hasN (ps.headD [])) pd) Q (aop P o f (sT (hasN (ps.headD [])) T pd)) := by
  show cond _ _ (cond _ _ _) = _
  cases quietOp P o <;> cases allocOp P o <;> rfl
theorem swant_false_some (op : Op) (t : Tmp) : swant P lib A ps g i all ⟨some t, op, ty, pos, af, gd⟩ r id f T pd Q false = if t < f.n then wopsS P lib A all r (if quietOp P ⟨some t, op, ty, pos, af, gd⟩ = true then ps else if allocOp P ⟨some t, op, ty, pos, af, gd⟩ = true then ps else ps.tail) (if quietOp P ⟨some t, op, ty, pos, af, gd⟩ = true then g else if allocOp P ⟨some t, op, ty, pos, af, gd⟩ = true then g else g - 1) (i + 1) (if allocOp P ⟨some t, op, ty, pos, af, gd⟩ = true then id + 1 else id) (f.put t undef) T pd Q else False := by
  have e : (if effectOp P ⟨some t, op, ty, pos, af, gd⟩ = true then g - 1 else g) = (if quietOp P ⟨some t, op, ty, pos, af, gd⟩ = true then g else if allocOp P ⟨some t, op, ty, pos, af, gd⟩ = true then g else g - 1) := by
    unfold effectOp
    cases quietOp P ⟨some t, op, ty, pos, af, gd⟩ <;> cases allocOp P ⟨some t, op, ty, pos, af, gd⟩ <;> rfl
  have e2 : (if effectOp P ⟨some t, op, ty, pos, af, gd⟩ = true then ps.tail else ps) = (if quietOp P ⟨some t, op, ty, pos, af, gd⟩ = true then ps else if allocOp P ⟨some t, op, ty, pos, af, gd⟩ = true then ps else ps.tail) := by
    unfold effectOp
    cases quietOp P ⟨some t, op, ty, pos, af, gd⟩ <;> cases allocOp P ⟨some t, op, ty, pos, af, gd⟩ <;> rfl
  rw [← e, ← e2]
  simp only [swant, wput_some]
theorem slook_val (o : Op) (t : Tmp) (v : Value) (s' : ASt) : slook P lib A ps g i all ⟨some t, o, ty, pos, af, gd⟩ r id f T pd Q (some (.val v s')) = if LA.lowO ⟨some t, o, ty, pos, af, gd⟩ f A = true ∧ valEq v v = true ∧ t < f.n then wopsS P lib A all r ps g (i + 1) id (f.put t v) T pd Q else False := by
  simp only [slook, wput_some]
  by_cases h0 : LA.lowO ⟨some t, o, ty, pos, af, gd⟩ f A = true <;> by_cases h1 : valEq v v = true <;> by_cases h2 : t < f.n <;> simp [h0, h1, h2]
theorem sstep_call (gg : FuncId) (args : List Value) : sstep P lib A ps g i all r id f d T pd Q (some (.call gg args)) = Runs P lib gg args T (fun v T' => (g ≠ 0 → LA.StayA A T T') ∧ scall P lib A ps (g - 1) i all r id f d pd Q v T') := rfl
theorem scall_some (t : Tmp) (v : Value) (s' : ASt) : scall P lib A ps g i all r id f (some t) pd Q v s' = if t < f.n then wopsS P lib A all r ps g (i + 1) id (f.put t v) s' pd Q else False := by
  simp only [scall, wput_some]
theorem sstep_same (v : Value) : sstep P lib A ps g i all r id f d T pd Q (some (.val v T)) = scall P lib A ps (g - 1) i all r id f d pd Q v T := by
  simp only [sstep, scall, LA.StayA.refl, implies_true, true_and]
theorem sstep_val (v : Value) (T' : ASt) : sstep P lib A ps g i all r id f d T pd Q (some (.val v T')) = ((g ≠ 0 → LA.StayA A T T') ∧ scall P lib A ps (g - 1) i all r id f d pd Q v T') := rfl
theorem scall_none (v : Value) (s' : ASt) : scall P lib A ps g i all r id f none pd Q v s' = wopsS P lib A all r ps g (i + 1) id f s' pd Q := rfl
end
theorem scall_reframe {P : Program} {lib : Prims} {A : Nat → Bool} {ps : List (List Nat)} {g i : Nat} {all r : List Oper} {id : Nat} {f : AFr} {d : Option Tmp} {pd : List (Nat × Nat × Blk)} {Q : AFr → ASt → Prop} {v : Value} {s' : ASt} (F : AFr → Prop) (h : F f) (k : ∀ f, F f → scall P lib A ps g i all r id f d pd Q v s') : scall P lib A ps g i all r id f d pd Q v s' := k f h

/-! When it is so. -/
def looseP (P : Program) (ops : List Oper) (ps : List (List Nat)) (K0 : Nat) : Bool :=
  let ms := masks ops []
  ops.zipIdx.all fun x =>
    (ops.zipIdx.all fun y => !allocOp P y.1 || ((Nat.blt y.2 x.2 || !Nat.testBit (nth0 ms x.2) y.2) && (!effectOp P x.1 || (Nat.testBit (nth0 ms x.2) y.2 == hasN (ps.getD (effs P ops x.2) []) y.2)))) &&
    (!quietOp P x.1 || (LA.calmOp P x.1 && (pureOp x.1 || (Nat.ble (countP (fun j => !Nat.testBit (nth0 ms j) x.2) P ops 0) K0 && Nat.ble (countP (fun j => Nat.blt j x.2) P ops 0) K0))))
theorem get_put_self (s : ASt) (i : Nat) (o : AO) : (s.put i o).heap.get i = some o := by
  simp only [ASt.put, Tr.get_set_self _ _ _ _ (deep (by omega))]
/-- What is left is what is not there. -/
theorem sP_filter (p : Nat → Bool) : ∀ (l : List (Nat × Nat × Blk)), sP p l = l.filter fun x => !p x.1 := by
  intro l
  induction l with
  | nil => rfl
  | cons e r ih =>
    obtain ⟨j, id, b⟩ := e
    rw [sP_cons, List.filter_cons, ih]
    cases p j <;> simp
theorem sT_get (p : Nat → Bool) : ∀ (l : List (Nat × Nat × Blk)) (T : ASt) (k : Nat), (∀ x ∈ l, p x.1 = true → x.2.1 ≠ k) → (sT p T l).heap.get k = T.heap.get k := by
  intro l
  induction l with
  | nil => intro T k _; rfl
  | cons e r ih =>
    obtain ⟨j, id, b⟩ := e
    intro T k h
    rw [sT_cons]
    have hr : ∀ x ∈ r, p x.1 = true → x.2.1 ≠ k := fun x hx => h x (List.mem_cons_of_mem _ hx)
    split
    · rename_i hp
      rw [ih _ _ hr, ASt.get_put_ne _ _ _ _ (h _ (List.mem_cons_self ..) hp)]
    · exact ih _ _ hr
theorem sT_has (p : Nat → Bool) : ∀ (l : List (Nat × Nat × Blk)) (T : ASt) (x : Nat × Nat × Blk), x ∈ l → p x.1 = true → (sT p T l).heap.get x.2.1 ≠ none := by
  intro l
  have mono : ∀ (l : List (Nat × Nat × Blk)) (T : ASt) (k : Nat), T.heap.get k ≠ none → (sT p T l).heap.get k ≠ none := by
    intro l
    induction l with
    | nil => intro T k h; exact h
    | cons e r ih =>
      obtain ⟨j, id, b⟩ := e
      intro T k h
      rw [sT_cons]
      split
      · refine ih _ _ ?_
        by_cases e : id = k
        · subst e; rw [get_put_self]; simp
        · rw [ASt.get_put_ne _ _ _ _ e]; exact h
      · exact ih _ _ h
  induction l with
  | nil => intro T x h; cases h
  | cons e r ih =>
    obtain ⟨j, id, b⟩ := e
    intro T x h hp
    rw [sT_cons]
    rcases List.mem_cons.mp h with rfl | h
    · simp only at hp
      rw [if_pos hp]
      exact mono _ _ _ (by rw [get_put_self]; simp)
    · split <;> exact ih _ x h hp
theorem sT_next (p : Nat → Bool) : ∀ (l : List (Nat × Nat × Blk)) (T : ASt), (sT p T l).next = T.next := by
  intro l
  induction l with
  | nil => intro T; rfl
  | cons e r ih =>
    obtain ⟨j, id, b⟩ := e
    intro T
    rw [sT_cons]
    split
    · rw [ih]; rfl
    · exact ih _
theorem keeps_put {s0 T : ASt} (hk : Keeps s0 T) {id : Nat} {b : Blk} (h1 : s0.next ≤ id) (h2 : id < T.next) : Keeps s0 (T.put id (.blk b)) := by
  refine ⟨hk.next, fun j hj hn => ?_, fun j hj => ?_, ⟨by omega, fun j ob hj => ?_⟩⟩
  · rw [ASt.get_put_ne _ _ _ _ (by omega)]; exact hk.gone j hj hn
  · by_cases hji : id = j
    · subst hji; rw [get_put_self]; simp
    · rw [ASt.get_put_ne _ _ _ _ hji]; exact hk.here j hj
  · by_cases hji : id = j
    · subst hji; simpa [ASt.put] using h2
    · rw [ASt.get_put_ne _ _ _ _ hji] at hj; have := hk.wf.bound j ob hj; simpa [ASt.put] using this
theorem sT_keeps (p : Nat → Bool) {s0 : ASt} : ∀ (l : List (Nat × Nat × Blk)) (T : ASt), Keeps s0 T → (∀ x ∈ l, s0.next ≤ x.2.1 ∧ x.2.1 < T.next) → Keeps s0 (sT p T l) := by
  intro l
  induction l with
  | nil => intro T h _; exact h
  | cons e r ih =>
    obtain ⟨j, id, b⟩ := e
    intro T h hl
    rw [sT_cons]
    have hr : ∀ x ∈ r, s0.next ≤ x.2.1 ∧ x.2.1 < T.next := fun x hx => hl x (List.mem_cons_of_mem _ hx)
    obtain ⟨h1, h2⟩ := hl _ (List.mem_cons_self ..)
    split
    · exact ih _ (keeps_put h h1 h2) hr
    · exact ih _ h hr
theorem sT_stay (p : Nat → Bool) {A : Nat → Bool} : ∀ (l : List (Nat × Nat × Blk)) (T : ASt), (∀ x ∈ l, A x.2.1 = false) → LA.StayA A T (sT p T l) := by
  intro l
  induction l with
  | nil => intro T _; exact LA.StayA.refl _ _
  | cons e r ih =>
    obtain ⟨j, id, b⟩ := e
    intro T hl
    rw [sT_cons]
    have hr : ∀ x ∈ r, A x.2.1 = false := fun x hx => hl x (List.mem_cons_of_mem _ hx)
    have h1 := hl _ (List.mem_cons_self ..)
    split
    · refine LA.StayA.trans (s' := T.put id (.blk b)) ⟨Nat.le_refl _, fun i hi => ASt.get_put_ne _ _ _ _ (fun e => ?_)⟩ (ih _ hr)
      subst e; simp only at h1; rw [h1] at hi; cases hi
    · exact ih _ hr
/-- Whatever is put: those that are there already stay as they are. -/
theorem fill_sT (p : Nat → Bool) : ∀ (as : List (Nat × Nat × Blk)) (T : ASt), (as.map fun x => x.2.1).Nodup → Cl.fill p T as = sT p T (as.filter fun x => (T.heap.get x.2.1).isNone) := by
  intro as
  induction as with
  | nil => intro T _; rfl
  | cons e r ih =>
    obtain ⟨j, id, b⟩ := e
    intro T hn
    rw [List.map_cons, List.nodup_cons] at hn
    obtain ⟨hn1, hn2⟩ := hn
    have hne : ∀ x ∈ r, id ≠ x.2.1 := fun x hx e => hn1 (List.mem_map.mpr ⟨x, hx, e.symm⟩)
    rw [List.filter_cons]
    cases hg : T.heap.get id with
    | some o =>
      simp only [Cl.fill, hg]
      cases p j <;> simpa using ih T hn2
    | none =>
      simp only [Option.isNone_none, if_true, sT_cons]
      cases hp : p j with
      | false => simpa [Cl.fill, hp] using ih T hn2
      | true =>
        simp only [Cl.fill, hp, hg, if_true]
        rw [ih _ hn2]
        congr 1
        refine List.filter_congr fun x hx => ?_
        rw [ASt.get_put_ne _ _ _ _ (hne x hx)]
structure Stands (A : Nat → Bool) (b : Prop) (s0 : ASt) (K : Nat) (i id : Nat) (as : List (Nat × Nat × Blk)) (T : ASt) (pd : List (Nat × Nat × Blk)) : Prop where
  pend : pd = as.filter fun x => (T.heap.get x.2.1).isNone
  nodup : (as.map fun x => x.2.1).Nodup
  before : ∀ x ∈ as, x.1 < i
  range : ∀ x ∈ as, s0.next ≤ x.2.1 ∧ x.2.1 < id
  lo : s0.next ≤ id
  free : ∀ k, id ≤ k → k < s0.next + K → T.heap.get k = none
  next : s0.next + K ≤ T.next
  top : id ≤ s0.next + K
  keeps : Keeps s0 T
  stT : b → LA.StayA A s0 T
theorem Stands.fill {A : Nat → Bool} {b : Prop} {s0 : ASt} {K i id : Nat} {as : List (Nat × Nat × Blk)} {T : ASt} {pd : List (Nat × Nat × Blk)} (h : Stands A b s0 K i id as T pd) (p : Nat → Bool) : Cl.fill p T as = sT p T pd := by rw [fill_sT p as T h.nodup, ← h.pend]
theorem drawOps_loose {P : Program} {lib : Prims} {all : List Oper} {A : Nat → Bool} (s0 : ASt) (hA : ∀ i, A i = true → i < s0.next) (K0 : Nat) (msA : List Nat) (psA : List (List Nat)) {Q : AFr → ASt → Prop}
    (hcut : ∀ (o : Oper) (i : Nat), all[i]? = some o → quietOp P o = true → LA.calmOp P o = true ∧ (pureOp o = false → countP (fun j => !Nat.testBit (nth0 msA j) i) P all 0 ≤ K0 ∧ effs P all i ≤ K0))
    (hput0 : ∀ (o p : Oper) (i j : Nat), all[i]? = some o → all[j]? = some p → allocOp P p = true → effectOp P o = true → Nat.testBit (nth0 msA i) j = hasN (psA.getD (effs P all i) []) j)
    (hfwd : ∀ (o p : Oper) (i j : Nat), all[i]? = some o → all[j]? = some p → allocOp P p = true → i ≤ j → Nat.testBit (nth0 msA i) j = false) :
    ∀ (l pre : List Oper) (ms : List Nat) (id : Nat) (f : AFr) (T : ASt) (as pd : List (Nat × Nat × Blk)), all = pre ++ l → ms = msA.drop pre.length → ms.length = l.length → id + allocs P l ≤ s0.next + allocs P all → Stands A (effs P pre pre.length ≤ K0) s0 (allocs P all) pre.length id as T pd → (∀ x ∈ as, ∃ p, all[x.1]? = some p ∧ allocOp P p = true) → wopsS P lib A all l (psA.drop (effs P pre pre.length)) (K0 - effs P pre pre.length) pre.length id f T pd Q →
    ∃ es f' T' U', (∃ n, ∀ m, n ≤ m → drawOps P (acall P lib m) all ms l pre.length id f T as = some es) ∧ (stagesOf P l es T).getLastD T = T' ∧ framesOf l es f = f' ∧ Cl.fill (fun _ => true) T' (as ++ madeOf es pre.length) = U' ∧
      (∀ x ∈ madeOf es pre.length, pre.length ≤ x.1 ∧ ∃ p, all[x.1]? = some p ∧ allocOp P p = true) ∧
      (∀ k x, (stagesOf P l es T)[k]? = some x → effs P pre pre.length + k ≤ K0 → LA.StayA A s0 x) ∧ (∀ sts before, sts = before ++ stagesOf P l es T → (∀ k x, sts[k]? = some x → k ≤ K0 → LA.StayA A s0 x) → before.length = effs P pre pre.length → checkAll P all msA (as ++ madeOf es pre.length) sts ms l es pre.length f = true) ∧ Keeps s0 U' ∧ Q f' U' := by
  intro l
  induction l with
  | nil =>
    intro pre ms id f T as pd _ _ hl _ hst _ hw
    rw [wopsS_nil] at hw
    have hpd : ∀ x ∈ pd, s0.next ≤ x.2.1 ∧ x.2.1 < T.next := fun x hx => by
      rw [hst.pend] at hx
      have := hst.range x (List.mem_filter.mp hx).1
      have := hst.next; have := hst.top; omega
    cases ms with
    | cons m r => simp at hl
    | nil => exact ⟨[], f, T, sT (fun _ => true) T pd, ⟨0, fun _ _ => rfl⟩, rfl, rfl, by simp only [madeOf, List.append_nil]; exact hst.fill _, (fun x hx => by simp [madeOf] at hx), (fun k x hx hk => by
      simp only [stagesOf] at hx
      cases k with
      | zero => simp at hx; rw [← hx]; exact hst.stT (by omega)
      | succ k => simp at hx), fun _ _ _ _ _ => rfl, sT_keeps _ _ _ hst.keeps hpd, hw⟩
  | cons o r ih =>
    intro pre ms id f T as pd hall hms hl hid hst has hw
    cases ms with
    | nil => simp at hl
    | cons m ms =>
    have hlr : ms.length = r.length := by simpa using hl
    have hall' : all = (pre ++ [o]) ++ r := by rw [hall, List.append_assoc]; rfl
    have hlen' : (pre ++ [o]).length = pre.length + 1 := by simp
    have hms' : ms = msA.drop (pre ++ [o]).length := by
      rw [hlen', ← List.drop_drop, ← hms]; rfl
    have hmA : nth0 msA pre.length = m := by
      have nth0_drop : ∀ (L : List Nat) (k : Nat) (x : Nat) (t : List Nat), L.drop k = x :: t → nth0 L k = x := by
        intro L
        induction L with
        | nil => intro k x t h; simp at h
        | cons y L ihL =>
          intro k x t h
          cases k with
          | zero => simp at h; exact h.1
          | succ k => simp only [List.drop_succ_cons] at h; simp only [nth0]; exact ihL k x t h
      exact nth0_drop msA pre.length m ms hms.symm
    have hget : all[pre.length]? = some o := by rw [hall]; simp
    have heffs : effs P all pre.length = effs P pre pre.length := by rw [hall, effs_append]
    have hsn := effs_snoc P o pre
    have hput : ∀ (v : Value) (K : AFr → Prop), (wput f o.dst v K) → ∃ f1, putD f o.dst v = some f1 ∧ K f1 := by
      intro v K h
      unfold wput at h
      split at h
      · exact ⟨_, ‹_›, h⟩
      · exact h.elim
    have hsnE : ∀ b : Bool, effectOp P o = b → effs P (pre ++ [o]) (pre ++ [o]).length = if b then effs P pre pre.length + 1 else effs P pre pre.length := fun b hb => by rw [hsn, hb]
    have hallocs : allocs P (o :: r) = if allocOp P o then allocs P r + 1 else allocs P r := rfl
    have hAid : ∀ x ∈ as, A x.2.1 = false := fun x hx => by
      cases hAi : A x.2.1 with
      | false => rfl
      | true => have := hA _ hAi; have := (hst.range x hx).1; omega
    rw [wopsS_cons] at hw
    cases hwa : wantedA all o f with
    | false =>
      rw [hwa] at hw
      obtain ⟨f1, hp, hw⟩ := hput _ _ hw
      have hst' : Stands A (effs P (pre ++ [o]) (pre ++ [o]).length ≤ K0) s0 (allocs P all) (pre ++ [o]).length (if allocOp P o then id + 1 else id) as T pd := by
        refine ⟨hst.pend, hst.nodup, fun x hx => by have := hst.before x hx; omega, fun x hx => by have := hst.range x hx; split <;> omega, by have := hst.lo; split <;> omega, fun k hk hk2 => hst.free k (by split at hk <;> omega) hk2, hst.next, ?_, hst.keeps, fun h => hst.stT (by rw [hsn] at h; split at h <;> omega)⟩
        rw [hallocs] at hid
        split at hid <;> split <;> first | omega | contradiction
      obtain ⟨es, f', T', U', ⟨n, h1⟩, h3, h4, hf, hmd, hsts, h5, hk, h6⟩ := ih (pre ++ [o]) ms _ f1 T as pd hall' hms' hlr (by rw [hallocs] at hid; split <;> split at hid <;> first | omega | contradiction) hst' has (by
        rw [hsn, hlen']
        cases he : effectOp P o <;> simp only [he, Bool.false_eq_true, if_false, if_true] at hw ⊢
        · exact hw
        · rw [Nat.sub_add_eq, ← List.drop_drop, List.drop_one]; exact hw)
      rw [hlen'] at h1 h5 hf hmd
      refine ⟨.skip :: es, f', T', U', ⟨n, fun q hq => ?_⟩, ?_, by simp only [framesOf, Ev.val, hp, h4], by simp only [madeOf]; exact hf, (fun x hx => by simp only [madeOf] at hx; obtain ⟨a, b⟩ := hmd x hx; exact ⟨by omega, b⟩), (fun k x hx hk => by
        simp only [stagesOf] at hx
        split at hx
        · rename_i he
          cases k with
          | zero => simp at hx; rw [← hx]; exact hst.stT (by omega)
          | succ k => exact hsts k x (by simpa using hx) (by rw [hsn, if_pos he]; omega)
        · rename_i he
          exact hsts k x hx (by rw [hsn, if_neg he]; omega)), fun sts before hs hss hb => ?_, hk, h6⟩
      · simp only [drawOps, drawOp, hwa, Ev.val, hp]
        rw [h1 q hq]
      · simp only [stagesOf]
        split
        · obtain ⟨rr, hr⟩ := stages_head P r es T
          rw [hr] at h3 ⊢
          rw [List.getLastD_cons] at h3 ⊢
          rw [List.getLastD_cons]; exact h3
        · exact h3
      · simp only [checkAll, Ev.val, hp, Bool.true_and, madeOf]
        simp only [stagesOf] at hs
        split at hs
        · rename_i he
          refine h5 sts (before ++ [T]) (by rw [hs, List.append_assoc]; rfl) hss ?_
          rw [← hlen', hsn, if_pos he, List.length_append, hb]; rfl
        · rename_i he
          refine h5 sts before hs hss ?_
          rw [← hlen', hsn, if_neg he, hb]
    | true =>
      rw [hwa] at hw
      cases hq : quietOp P o with
      | true =>
        simp only [swant, hq, cond_true] at hw
        have hne := quiet_not_effect hq
        have hna := quiet_not_alloc hq
        rw [hallocs, if_neg (by simp [hna])] at hid
        unfold slook at hw
        split at hw
        case h_2 => exact hw.elim
        rename_i v s1 hop
        obtain ⟨hlo, hv, hw⟩ := hw
        obtain ⟨f1, hp, hw⟩ := hput _ _ hw
        have hst' : Stands A (effs P (pre ++ [o]) (pre ++ [o]).length ≤ K0) s0 (allocs P all) (pre ++ [o]).length id as T pd := ⟨hst.pend, hst.nodup, fun x hx => by have := hst.before x hx; omega, hst.range, hst.lo, hst.free, hst.next, hst.top, hst.keeps, fun h => hst.stT (by rw [hsnE _ hne] at h; simpa using h)⟩
        obtain ⟨es, f', T', U', ⟨n, h1⟩, h3, h4, hf, hmd, hsts, h5, hk, h6⟩ := ih (pre ++ [o]) ms id f1 T as pd hall' hms' hlr hid hst' has (by rw [hsnE _ hne, hlen']; exact hw)
        rw [hlen'] at h1 h5 hf hmd
        obtain ⟨hcalm, hle'⟩ := hcut o pre.length hget hq
        have hle : pureOp o = false → countP (fun j => !Nat.testBit (nth0 msA j) pre.length) P all 0 ≤ K0 ∧ effs P pre pre.length ≤ K0 := fun h2 => by rw [← heffs]; exact hle' h2
        -- what it sees
        obtain ⟨s2, hsee⟩ : ∃ s2, aop P o f (Cl.fill (Nat.testBit m) T as) = some (.val v s2) := ⟨_, LB.calm_some hcalm hlo (fun h => hst.stT (hle h).2) (fun h => (hst.stT (hle h).2).trans (LA.fill_stay _ _ _ _ hAid)) hop⟩
        refine ⟨.quiet v :: es, f', T', U', ⟨n, fun q hqm => ?_⟩, ?_, by simp only [framesOf, Ev.val, hp, h4], by simp only [madeOf]; exact hf, (fun x hx => by simp only [madeOf] at hx; obtain ⟨a, b⟩ := hmd x hx; exact ⟨by omega, b⟩), (fun k x hx hk => hsts k x (by simpa [stagesOf, hne] using hx) (by rw [hsnE _ hne]; simpa using hk)), fun sts before hs hss hb => ?_, hk, h6⟩
        · simp only [drawOps, drawOp, hwa, hq, hsee, Ev.val, hp, hna]
          rw [if_neg (by simp), h1 q hqm]
        · simp only [stagesOf, hne]; simpa using h3
        · have hs' : sts = before ++ stagesOf P r es T := by simpa [stagesOf, hne] using hs
          simp only [checkAll, Ev.val, hp, madeOf]
          rw [h5 sts before hs' hss (by rw [← hlen', hsn, if_neg (by simp [hne]), hb]), Bool.and_true]
          -- fill by all that is made is fill by what was made
          have hfw : ∀ X : ASt, Cl.fill (Nat.testBit m) X (as ++ madeOf es (pre.length + 1)) = Cl.fill (Nat.testBit m) X as := by
            intro X
            rw [fill_append, fill_none _ (madeOf es (pre.length + 1))]
            intro x hx
            obtain ⟨a, p, hp', hpa⟩ := hmd x hx
            rw [← hmA]
            exact hfwd o p pre.length x.1 hget hp' hpa (by omega)
          have hsame : ∀ (L : List ASt), (pureOp o = false → ∀ x ∈ L, LA.StayA A s0 x) → sameAt P m (as ++ madeOf es (pre.length + 1)) o f v L = true := by
            intro L
            induction L with
            | nil => intro _; rfl
            | cons x L ihL =>
              intro hx2
              simp only [sameAt, hfw]
              obtain ⟨s3, hs3⟩ : ∃ s3, aop P o f (Cl.fill (Nat.testBit m) x as) = some (.val v s3) := ⟨_, LB.calm_some hcalm hlo (fun h => hst.stT (hle h).2) (fun h => (hx2 h x (List.mem_cons_self ..)).trans (LA.fill_stay _ _ _ _ hAid)) hop⟩
              rw [hs3]
              simp only [hv, Bool.true_and]
              exact ihL (fun h2 y hy => hx2 h2 y (List.mem_cons_of_mem _ hy))
          refine hsame _ (fun h2 x hx => ?_)
          obtain ⟨k, hk⟩ := List.getElem?_of_mem (List.mem_of_mem_drop hx)
          rw [List.getElem?_take] at hk
          split at hk
          · rename_i hkl
            have := (hle h2).1
            exact hss k x hk (by omega)
          · cases hk
      | false =>
        cases ha : allocOp P o with
        | true =>
          simp only [swant, hq, ha, cond_true, cond_false] at hw
          rw [hallocs, if_pos ha] at hid
          have hne : effectOp P o = false := by simp [effectOp, ha]
          unfold smake at hw
          split at hw
          case h_2 => exact hw.elim
          rename_i v b hop
          obtain ⟨f1, hp, hw⟩ := hput _ _ hw
          have hop' : ∃ s1, aop P o f ⟨.nil, id⟩ = some (.val v s1) ∧ s1.blk? id = some b := by
            unfold valloc at hop
            split at hop
            · rename_i v1 s1 h1
              split at hop
              · rename_i b1 hb1
                injection hop with hop; injection hop with e1 e2; subst e1; subst e2
                exact ⟨s1, h1, hb1⟩
              · cases hop
            · cases hop
          obtain ⟨s1, ho1, ho2⟩ := hop'
          have hfree := hst.free id (Nat.le_refl _) (by omega)
          have hst' : Stands A (effs P (pre ++ [o]) (pre ++ [o]).length ≤ K0) s0 (allocs P all) (pre ++ [o]).length (id + 1) (as ++ [(pre.length, id, b)]) T (pd ++ [(pre.length, id, b)]) := by
            refine ⟨?_, ?_, fun x hx => ?_, fun x hx => ?_, by have := hst.lo; omega, fun k hk hk2 => hst.free k (by omega) hk2, hst.next, by omega, hst.keeps, fun h => hst.stT (by rw [hsnE _ hne] at h; simpa using h)⟩
            · rw [List.filter_append, ← hst.pend, List.filter_cons]
              simp only [hfree, Option.isNone_none, if_true, List.filter_nil]
            · rw [List.map_append, List.nodup_append]
              refine ⟨hst.nodup, by simp, ?_⟩
              intro a ha b hb e
              obtain ⟨x, hx, rfl⟩ := List.mem_map.mp ha
              have := (hst.range x hx).2
              simp only [List.map_cons, List.map_nil, List.mem_singleton] at hb
              omega
            · rcases List.mem_append.mp hx with hx | hx
              · have := hst.before x hx; omega
              · rw [List.mem_singleton] at hx; subst hx; simp
            · rcases List.mem_append.mp hx with hx | hx
              · have := hst.range x hx; omega
              · rw [List.mem_singleton] at hx; subst hx; have := hst.lo; simp only; omega
          have has' : ∀ x ∈ as ++ [(pre.length, id, b)], ∃ p, all[x.1]? = some p ∧ allocOp P p = true := by
            intro x hx
            rcases List.mem_append.mp hx with hx | hx
            · exact has x hx
            · rw [List.mem_singleton] at hx; subst hx; exact ⟨o, hget, ha⟩
          obtain ⟨es, f', T', U', ⟨n, h1⟩, h3, h4, hf, hmd, hsts, h5, hk, h6⟩ := ih (pre ++ [o]) ms (id + 1) f1 T _ _ hall' hms' hlr (by omega) hst' has' (by rw [hsnE _ hne, hlen']; exact hw)
          rw [hlen'] at h1 h5 hf hmd
          have hap : ∀ L, as ++ (pre.length, id, b) :: L = (as ++ [(pre.length, id, b)]) ++ L := fun L => by rw [List.append_assoc]; rfl
          refine ⟨.made v id b :: es, f', T', U', ⟨n, fun q hqm => ?_⟩, ?_, by simp only [framesOf, Ev.val, hp, h4], by simp only [madeOf]; rw [hap]; exact hf, (fun x hx => ?_), (fun k x hx hk => hsts k x (by simpa [stagesOf, hne] using hx) (by rw [hsnE _ hne]; simpa using hk)), fun sts before hs hss hb => ?_, hk, h6⟩
          · simp only [drawOps, drawOp, hwa, hq, ha, ho1, ho2, Ev.val, hp, if_true]
            rw [h1 q hqm]
          · simp only [stagesOf, hne]; simpa using h3
          · simp only [madeOf] at hx
            rcases List.mem_cons.mp hx with rfl | hx
            · exact ⟨Nat.le_refl _, o, hget, ha⟩
            · obtain ⟨a, c⟩ := hmd x hx; exact ⟨by omega, c⟩
          · simp only [checkAll, Ev.val, hp, Bool.true_and, madeOf]
            rw [hap]
            have hs' : sts = before ++ stagesOf P r es T := by simpa [stagesOf, hne] using hs
            exact h5 sts before hs' hss (by rw [← hlen', hsn, if_neg (by simp [hne]), hb])
        | false =>
          simp only [swant, hq, ha, cond_false] at hw
          rw [hallocs, if_neg (by simp [ha])] at hid
          have he : effectOp P o = true := by simp [effectOp, hq, ha]
          obtain ⟨ks, hks⟩ : ∃ ks, ks = (psA.drop (effs P pre pre.length)).headD [] := ⟨_, rfl⟩
          rw [← hks] at hw
          have hkg : psA.getD (effs P all pre.length) [] = ks := by
            rw [hks, heffs, List.getD_eq_getElem?_getD, List.headD_eq_head?_getD, List.head?_drop]
          -- what it is run in
          have hV : Cl.fill (Nat.testBit m) T as = sT (hasN ks) T pd := by
            rw [← hst.fill]
            have : ∀ (l : List (Nat × Nat × Blk)) (X : ASt), (∀ x ∈ l, Nat.testBit m x.1 = hasN ks x.1) → Cl.fill (Nat.testBit m) X l = Cl.fill (hasN ks) X l := by
              intro l
              induction l with
              | nil => intro X _; rfl
              | cons e q ihq =>
                obtain ⟨j, d, b⟩ := e
                intro X h
                simp only [Cl.fill]
                have hh : Nat.testBit m j = hasN ks j := h _ (List.mem_cons_self ..)
                rw [hh]
                have hq := fun X => ihq X (fun x hx => h x (List.mem_cons_of_mem _ hx))
                cases hasN ks j with
                | false => exact hq _
                | true => cases X.heap.get d <;> exact hq _
            refine this as T (fun x hx => ?_)
            obtain ⟨p, hp, hpa⟩ := has x hx
            rw [← hmA, ← hkg]
            exact hput0 o p pre.length x.1 hget hp hpa he
          obtain ⟨V, hVd⟩ : ∃ V, V = sT (hasN ks) T pd := ⟨_, rfl⟩
          have hpdas : ∀ x ∈ pd, x ∈ as ∧ T.heap.get x.2.1 = none := fun x hx => by
            rw [hst.pend] at hx
            obtain ⟨h1, h2⟩ := List.mem_filter.mp hx
            exact ⟨h1, by simpa using h2⟩
          have hVn : V.next = T.next := by rw [hVd, sT_next]
          have hVk : Keeps s0 V := by
            rw [hVd]
            refine sT_keeps _ _ _ hst.keeps (fun x hx => ?_)
            have := hst.range x (hpdas x hx).1
            have := hst.next; have := hst.top; omega
          have hVs : LA.StayA A T V := by rw [hVd]; exact sT_stay _ _ _ (fun x hx => hAid x (hpdas x hx).1)
          rw [hVd.symm] at hw hV
          have fin : ∀ (v : Value) (U1 : ASt) (n0 : Nat), (∀ q, n0 ≤ q → drawOp P (acall P lib q) all m id as o f T = some (.eff v U1)) → Keeps V U1 → (K0 - effs P pre pre.length ≠ 0 → LA.StayA A V U1) → (wput f o.dst v fun f' => wopsS P lib A all r (psA.drop (effs P pre pre.length)).tail (K0 - effs P pre pre.length - 1) (pre.length + 1) id f' U1 (sP (hasN ks) pd) Q) →
              ∃ es f' T' U', (∃ n, ∀ m', n ≤ m' → drawOps P (acall P lib m') all (m :: ms) (o :: r) pre.length id f T as = some es) ∧ (stagesOf P (o :: r) es T).getLastD T = T' ∧ framesOf (o :: r) es f = f' ∧ Cl.fill (fun _ => true) T' (as ++ madeOf es pre.length) = U' ∧
                (∀ x ∈ madeOf es pre.length, pre.length ≤ x.1 ∧ ∃ p, all[x.1]? = some p ∧ allocOp P p = true) ∧
                (∀ k x, (stagesOf P (o :: r) es T)[k]? = some x → effs P pre pre.length + k ≤ K0 → LA.StayA A s0 x) ∧ (∀ sts before, sts = before ++ stagesOf P (o :: r) es T → (∀ k x, sts[k]? = some x → k ≤ K0 → LA.StayA A s0 x) → before.length = effs P pre pre.length → checkAll P all msA (as ++ madeOf es pre.length) sts (m :: ms) (o :: r) es pre.length f = true) ∧ Keeps s0 U' ∧ Q f' U' := by
            intro v U1 n0 hd hkU hkS hw
            obtain ⟨f1, hp, hw⟩ := hput _ _ hw
            have hst' : Stands A (effs P (pre ++ [o]) (pre ++ [o]).length ≤ K0) s0 (allocs P all) (pre ++ [o]).length id as U1 (sP (hasN ks) pd) := by
              refine ⟨?_, hst.nodup, fun x hx => by have := hst.before x hx; omega, hst.range, hst.lo, fun k hk hk2 => hkU.gone k (by have := hst.next; omega) ?_, by have := hst.next; have := hkU.next; omega, hst.top, hVk.trans hkU, fun h => ?_⟩
              · rw [sP_filter, hst.pend, List.filter_filter]
                refine List.filter_congr fun x hx => ?_
                have hr := hst.range x hx
                have hlt : x.2.1 < V.next := by rw [hVn]; have := hst.next; have := hst.top; omega
                -- others' numbers differ
                have hother : ∀ y ∈ as, y.2.1 = x.2.1 → y = x := fun y hy e => by
                  obtain ⟨i1, hi1, e1⟩ := List.getElem_of_mem hy
                  obtain ⟨i2, hi2, e2⟩ := List.getElem_of_mem hx
                  have h1 : (as.map fun x => x.2.1)[i1]'(by simpa using hi1) = (as.map fun x => x.2.1)[i2]'(by simpa using hi2) := by simp [e1, e2, e]
                  have := (List.getElem_inj hst.nodup).mp h1
                  subst this
                  rw [← e1, ← e2]
                cases hT : T.heap.get x.2.1 with
                | some ob =>
                  have hV1 : V.heap.get x.2.1 ≠ none := by
                    rw [hVd, sT_get _ _ _ _ (fun y hy _ e => ?_), hT]
                    · simp
                    · have := hother y (hpdas y hy).1 e
                      subst this
                      rw [(hpdas _ hy).2] at hT; cases hT
                  have hU1 := hkU.here _ hV1
                  cases hg : U1.heap.get x.2.1 with
                  | none => exact absurd hg hU1
                  | some _ => simp
                | none =>
                  have hxp : x ∈ pd := by rw [hst.pend]; exact List.mem_filter.mpr ⟨hx, by simp [hT]⟩
                  cases hh : hasN ks x.1 with
                  | true =>
                    have hU1 := hkU.here _ (by rw [hVd]; exact sT_has _ _ _ x hxp hh)
                    cases hg : U1.heap.get x.2.1 with
                    | none => exact absurd hg hU1
                    | some _ => simp
                  | false =>
                    have hV1 : V.heap.get x.2.1 = none := by
                      rw [hVd, sT_get _ _ _ _ (fun y hy hyk e => ?_), hT]
                      have := hother y (hpdas y hy).1 e
                      subst this
                      rw [hh] at hyk; cases hyk
                    rw [hkU.gone _ hlt hV1]; simp
              · rw [hVd, sT_get _ _ _ _ (fun y hy _ e => by have := (hst.range y (hpdas y hy).1).2; omega)]
                exact hst.free k hk hk2
              · rw [hsnE _ he] at h
                have h : effs P pre pre.length + 1 ≤ K0 := by simpa using h
                exact ((hst.stT (by omega)).trans hVs).trans (hkS (by omega))
            obtain ⟨es, f', T', U', ⟨n, h1⟩, h3, h4, hf, hmd, hsts, h5, hk, h6⟩ := ih (pre ++ [o]) ms id f1 U1 as _ hall' hms' hlr hid hst' has (by rw [hsnE _ he, if_pos rfl, Nat.sub_add_eq, ← List.drop_drop, List.drop_one, hlen']; exact hw)
            rw [hlen'] at h1 h5 hf hmd
            refine ⟨.eff v U1 :: es, f', T', U', ⟨n + n0, fun q hqm => ?_⟩, ?_, by simp only [framesOf, Ev.val, hp, h4], by simp only [madeOf]; exact hf, (fun x hx => by simp only [madeOf] at hx; obtain ⟨a, b⟩ := hmd x hx; exact ⟨by omega, b⟩), (fun k x hx hk => by
              simp only [stagesOf] at hx
              cases k with
              | zero => simp at hx; rw [← hx]; exact hst.stT (by omega)
              | succ k => exact hsts k x (by simpa using hx) (by rw [hsnE _ he, if_pos rfl]; omega)), fun sts before hs hss hb => ?_, hk, h6⟩
            · simp only [drawOps, hd q (by omega), Ev.val, hp, ha]
              rw [if_neg (by simp), h1 q (by omega)]
            · simp only [stagesOf]
              obtain ⟨rr, hr⟩ := stages_head P r es U1
              rw [hr] at h3 ⊢
              rw [List.getLastD_cons] at h3 ⊢
              rw [List.getLastD_cons]; exact h3
            · simp only [checkAll, Ev.val, hp, Bool.true_and, madeOf]
              simp only [stagesOf] at hs
              refine h5 sts (before ++ [T]) (by rw [hs, List.append_assoc]; rfl) hss ?_
              rw [← hlen', hsn, if_pos he, List.length_append, hb]; rfl
          unfold sstep at hw
          split at hw
          case h_3 => exact hw.elim
          · rename_i v U1 hop
            obtain ⟨hkS, hw⟩ := hw
            exact fin v U1 0 (fun q _ => by simp only [drawOp, hwa, hq, ha, hV, hop]) (aop_keeps hVk.wf hop) hkS hw
          · rename_i gg args hop
            obtain ⟨v, U1, ⟨nc, hc⟩, hkU, hkS, hw⟩ := hw hVk.wf
            exact fin v U1 nc (fun q hqm => by simp only [drawOp, hwa, hq, ha, hV, hop, hc q hqm]) hkU hkS hw

theorem Drawn.loose {P : Program} {lib : Prims} {ops : List Oper} {A : Nat → Bool} (K0 : Nat) (ps : List (List Nat)) (ht : looseP P ops ps K0 = true) {f : AFr} {s : ASt} {Q : AFr → ASt → Prop} (hA : ∀ i, A i = true → i < s.next) (h : wopsS P lib A ops ops ps K0 0 s.next f (spare s (allocs P ops)) [] Q) : Drawn P lib ops f s Q := by
  intro hwf
  simp only [looseP, List.all_eq_true, Bool.and_eq_true, Bool.or_eq_true, Bool.not_eq_true'] at ht
  have hmem : ∀ (o : Oper) (i : Nat), ops[i]? = some o → (o, i) ∈ ops.zipIdx := fun o i hi => by rw [List.mem_zipIdx_iff_getElem?]; simpa using hi
  have hms : (masks ops []).length = ops.length := by
    obtain ⟨r, h1, h2⟩ := masks_pre ops []
    rw [h1]; simpa using h2
  have hfree : ∀ k, s.next ≤ k → s.heap.get k = none := fun k hk1 => by
    cases hg : s.heap.get k with
    | none => rfl
    | some o => have := hwf.bound k o hg; omega
  have hk0 : Keeps s (spare s (allocs P ops)) := ⟨by simp [spare], fun _ _ h => h, fun _ h => h, ⟨by omega, fun j o hj => by have := hwf.bound j o hj; simp only [spare]; omega⟩⟩
  obtain ⟨es, f', T', U', ⟨n, h1⟩, h3, h4, hf, hmd, hsts, h5, hk, h6⟩ := drawOps_loose (P := P) (lib := lib) (all := ops) (A := A) s hA K0 (masks ops []) ps (Q := Q) (fun o i hi hq => by
      have := (ht (o, i) (hmem o i hi)).2
      have hcb := countP_before P ops 0 i
      rw [Nat.zero_add] at hcb
      rcases this with h | ⟨h1, h2⟩
      · simp only at h; rw [hq] at h; cases h
      · refine ⟨h1, fun hp => ?_⟩
        rcases h2 with h2 | ⟨t1, t2⟩
        · simp only at h2; rw [hp] at h2; cases h2
        · rw [hcb] at t2
          exact ⟨by simpa [Nat.ble_eq] using t1, by simpa [Nat.ble_eq] using t2⟩)
    (fun o p i j hi hj ha he => by
      have := (ht (o, i) (hmem o i hi)).1 (p, j) (hmem p j hj)
      rcases this with h | ⟨_, h | h⟩
      · simp only at h; rw [ha] at h; cases h
      · simp only at h; rw [he] at h; cases h
      · simpa using h)
    (fun o p i j hi hj ha hij => by
      have := (ht (o, i) (hmem o i hi)).1 (p, j) (hmem p j hj)
      rcases this with h | ⟨h | h, _⟩
      · simp only at h; rw [ha] at h; cases h
      · simp only [Nat.blt_eq] at h; omega
      · exact h)
    ops [] (masks ops []) s.next f (spare s (allocs P ops)) [] [] rfl rfl hms (by omega)
    ⟨rfl, by simp, fun _ hx => (by cases hx), fun _ hx => (by cases hx), Nat.le_refl _, fun k hk1 _ => hfree k hk1, by simp [spare], by omega, hk0, fun _ => LA.Stay.toA hA (Stay.spare _ _)⟩ (fun _ hx => (by cases hx)) h
  simp only [List.nil_append, List.length_nil] at h1 h5 hf hmd
  refine ⟨f', U', ⟨n, fun m hm => ?_⟩, hk, h6⟩
  unfold drawRun
  have h1' := h1 m hm
  have hb : Nat.ble 0 16000000 = true := rfl
  show (match drawOps P (acall P lib m) ops (masks ops []) ops 0 s.next f (spare s (allocs P ops)) [] with
    | some es => match checkAll P ops (masks ops []) (madeOf es 0) (stagesOf P ops es (spare s (allocs P ops))) (masks ops []) ops es 0 f with
      | true => some (framesOf ops es f, Cl.fill (fun _ => true) ((stagesOf P ops es (spare s (allocs P ops))).getLastD s) (madeOf es 0))
      | false => none
    | none => none) = _
  rw [h1']
  have h5' := h5 (stagesOf P ops es (spare s (allocs P ops))) [] rfl (fun k x hx hk => hsts k x hx (by simpa [effs] using hk)) rfl
  simp only [h5', h4]
  obtain ⟨rr, hr⟩ := stages_head P ops es (spare s (allocs P ops))
  rw [hr] at h3 ⊢
  rw [List.getLastD_cons] at h3 ⊢
  rw [h3, hf]
/-- With so many new blocks; ps: for each effect, the places of those new blocks that it waits for. -/
theorem Drawn.looseK {P : Program} {lib : Prims} {ops : List Oper} {f : AFr} {s : ASt} {Q : AFr → ASt → Prop} (A : Nat → Bool) (hA : ∀ i, A i = true → i < s.next) (g k : Nat) (ps : List (List Nat)) (ht : looseP P ops ps g = true) (hk : Nat.beq (allocs P ops) k = true) (h : wopsS P lib A ops ops ps g 0 s.next f (spare s k) [] Q) : wdraw P lib ops f s Q false := by
  have : allocs P ops = k := by simpa [Nat.beq_eq] using hk
  exact Drawn.loose g ps ht hA (by rw [this]; exact h)
/-! In such a statement. -/
/-- A new slice. -/
def newV (id n : Nat) (cs : List Value) : Value := .slice (some ⟨id, 0, none⟩) n (cs.length + 1)
theorem newV_self (id n : Nat) (cs : List Value) : valEq (newV id n cs) (newV id n cs) = true := valEq_slice _ _ _
section
variable (P : Program) (lib : Prims) (A : Nat → Bool) (ps : List (List Nat)) (g i : Nat) (all r : List Oper) (id : Nat) (f : AFr) (T : ASt) (pd : List (Nat × Nat × Blk)) (t : Tmp) (Q : AFr → ASt → Prop)
theorem smake_slice (cs : List Value) (n z : Nat) : smake P lib A ps g i all r id f T pd (some t) Q (valloc id (pOf (newSlice ⟨.nil, id⟩ cs n z))) = if t < f.n then wopsS P lib A all r ps g (i + 1) (id + 1) (f.put t (newV id n cs)) T (pd ++ [(i, id, ⟨cs, 1, true, z⟩)]) Q else False := by
  have e : valloc id (pOf (newSlice ⟨.nil, id⟩ cs n z)) = some (newV id n cs, ⟨cs, 1, true, z⟩) := by
    have : newSlice ⟨.nil, id⟩ cs n z = some (.slice (some ⟨id, 0, none⟩) n (cs.length + 1), (⟨.nil, id⟩ : ASt).new (.blk ⟨cs, 1, true, z⟩)) := by simp [newSlice, ASt.room]
    rw [this, pOf_some]
    have hb : ((⟨.nil, id⟩ : ASt).new (.blk ⟨cs, 1, true, z⟩)).blk? id = some ⟨cs, 1, true, z⟩ := blk_new ⟨.nil, id⟩ _
    simp only [valloc, hb]; rfl
  rw [e]
  simp only [smake, wput_some]
theorem smake_ptr (cs : List Value) (z : Nat) : smake P lib A ps g i all r id f T pd (some t) Q (valloc id (pOf (newPtr ⟨.nil, id⟩ cs z))) = if t < f.n then wopsS P lib A all r ps g (i + 1) (id + 1) (f.put t (.pointer (some ⟨id, 0, some (cs.length + 1)⟩))) T (pd ++ [(i, id, ⟨cs, 1, true, z⟩)]) Q else False := by
  have e : valloc id (pOf (newPtr ⟨.nil, id⟩ cs z)) = some (.pointer (some ⟨id, 0, some (cs.length + 1)⟩), ⟨cs, 1, true, z⟩) := by
    have : newPtr ⟨.nil, id⟩ cs z = some (.pointer (some ⟨id, 0, some (cs.length + 1)⟩), (⟨.nil, id⟩ : ASt).new (.blk ⟨cs, 1, true, z⟩)) := by simp [newPtr, ASt.room]
    rw [this, pOf_some]
    have hb : ((⟨.nil, id⟩ : ASt).new (.blk ⟨cs, 1, true, z⟩)).blk? id = some ⟨cs, 1, true, z⟩ := blk_new ⟨.nil, id⟩ _
    simp only [valloc, hb]
  rw [e]
  simp only [smake, wput_some]
end
/-- A new slice that is put into the memory. -/
theorem own_put {T : ASt} {id n z : Nat} {cs : List Value} (hid : id < T.next) (h : cs.length = n * z) : Own (T.put id (.blk ⟨cs, 1, true, z⟩)) z (newV id n cs) n cs :=
  .of id n 1 cs (by simpa [ASt.put] using hid) (ASt.blk?_put_self _ _ _ (by omega)) (by omega) h
theorem stay_put {T : ASt} {id base : Nat} {b : Blk} (h : base ≤ id) : Stay base T (T.put id (.blk b)) := ⟨Nat.le_refl _, fun j hj => ASt.get_put_ne _ _ _ _ (by omega)⟩
theorem thing_put {T : ASt} {id z : Nat} {cs : List Value} (hid : id < T.next) : Thing (T.put id (.blk ⟨cs, 1, true, z⟩)) id cs :=
  ⟨by simpa [ASt.put] using hid, 1, z, ASt.blk?_put_self _ _ _ (by omega), by omega⟩
theorem sees_put {T : ASt} {id z : Nat} {v : Value} {n : Nat} {l : List Value} {b : Blk} (h : Sees T z v n l) (hne : idOf v ≠ some id) : Sees (T.put id (.blk b)) z v n l := Sees.ofPut (s := T) (s' := T.put id (.blk b)) (i := id) rfl (fun _ hj => ASt.get_put_ne _ _ _ _ (Ne.symm hj)) h hne
theorem own_put2 {T : ASt} {id z : Nat} {v : Value} {n : Nat} {l : List Value} {b : Blk} (h : Own T z v n l) (hne : idOf v ≠ some id) : Own (T.put id (.blk b)) z v n l := Own.ofPut (s := T) (s' := T.put id (.blk b)) (i := id) rfl (fun _ hj => ASt.get_put_ne _ _ _ _ (Ne.symm hj)) h hne
section
variable {P : Program} {lib : Prims} {A : Nat → Bool} {ps : List (List Nat)} {g i : Nat} {all r : List Oper} {id : Nat} {f : AFr} {T : ASt} {pd : List (Nat × Nat × Blk)} {d : Option Tmp} {Q : AFr → ASt → Prop}
/-- append, to what is one's own and new. -/
theorem sstep_append {st xt e : TypeId} {xd : TypeDesc} {z by8 : Nat} {zv : Value} (hu : P.underlying st = some (.slice e)) (hux : P.underlying xt = some xd) (hxd : (∃ e2, xd = .slice e2) ∨ xd = .string) (hsz : sizeB P e = some z) (hby : bytesB P e = some by8) (hzv : zeroB P e = some zv) (hzl : Nat.beq zv.cells.toList.length z = true)
    {x y : Value} {n m : Nat} {l new : List Value} (hx : Own T z x n l) (hy : srcCells T z y = some (m, new)) (hnew : new.length = m * z) (hz0 : 0 < z) (hok : new.all okCell = true) (hb1 : (n + m) * by8 ≤ 4294967296) (hb2 : n + m ≤ 4294967296) {base : Nat} (hF : Fresh base x) (hB : base ≤ T.next) (hA1 : g ≠ 0 → ∀ i, idOf x = some i → A i = false) (hA2 : ∀ i, A i = true → i < T.next)
    (K : ∀ x' T', Own T' z x' (n + m) (l ++ new) → Fresh base x' → Turns x T T' → (idOf x' = idOf x ∨ ∃ i, idOf x' = some i ∧ T.next ≤ i) → scall P lib A ps (g - 1) i all r id f d pd Q x' T') : sstep P lib A ps g i all r id f d T pd Q (pOf (appendA P T st xt x y)) := by
  obtain ⟨x', s', h1, h2, h3, h4⟩ := Own.append hu hux hxd hsz hby hzv hzl hx hy hnew hz0 hok hb1 hb2
  rw [h1, pOf_some]
  have hk : g ≠ 0 → LA.StayA A T s' := fun hg => ⟨h3.next, fun i hi => h3.get i (hA2 i hi) (fun e => by have := hA1 hg i e; rw [hi] at this; cases this)⟩
  refine ⟨hk, K _ _ h2 (fun i hi => ?_) h3 h4⟩
  rcases h4 with h4 | ⟨j, hj, hl⟩
  · exact hF i (by rw [← h4]; exact hi)
  · rw [hj] at hi; injection hi with hi; omega
theorem sstep_storeN {e : TypeId} {m : Nat} (hsz : sizeB P e = some m) (hm0 : 0 < m) {q : Nat} {cs : List Value} (h : Thing T q cs) {off c : Nat} (hc : c = cs.length + 1) {v : Value} {vs : List Value} (hv : v.cells.toList = vs) (hm : vs.length = m) (ho : off + m ≤ cs.length) (hok : vs.all okCell = true) (hA : g ≠ 0 → A q = false)
    (K : ∀ T', Thing T' q (over cs off vs) → T'.next = T.next → (∀ j, j ≠ q → T'.heap.get j = T.heap.get j) → scall P lib A ps (g - 1) i all r id f d pd Q undef T') : sstep P lib A ps g i all r id f d T pd Q (uOf (storeA P T e (.pointer (some ⟨q, off, some c⟩)) v)) := by
  obtain ⟨s', h1, h2, h3, h4⟩ := h.storeN hsz hm0 hc hv hm ho hok
  rw [h1, uOf_some, sstep_val]
  exact ⟨fun hg => ⟨by omega, fun j hj => h4 j (fun e => by have := hA hg; rw [e, this] at hj; cases hj)⟩, K s' h2 h3 h4⟩
end
end LP
/-- The rules of a walk through such a statement. -/
theorem allP : type_of%
  (And.intro @LP.wopsS_nil (And.intro @LP.wopsS_cons (And.intro @LP.swant_ite (And.intro @LP.swant_false_some (And.intro @LP.slook_val (And.intro @LP.sstep_call (And.intro @LP.scall_some (And.intro @LP.scall_none (And.intro @LP.sstep_same (And.intro @LP.smake_slice (And.intro @LP.smake_ptr (And.intro @LP.sT_nil (And.intro @LP.sT_cons (And.intro @LP.sP_nil (And.intro @LP.sP_cons (And.intro @LP.hasN_nil (And.intro @LP.hasN_cons @LP.newV_self))))))))))))))))) :=
  (And.intro @LP.wopsS_nil (And.intro @LP.wopsS_cons (And.intro @LP.swant_ite (And.intro @LP.swant_false_some (And.intro @LP.slook_val (And.intro @LP.sstep_call (And.intro @LP.scall_some (And.intro @LP.scall_none (And.intro @LP.sstep_same (And.intro @LP.smake_slice (And.intro @LP.smake_ptr (And.intro @LP.sT_nil (And.intro @LP.sT_cons (And.intro @LP.sP_nil (And.intro @LP.sP_cons (And.intro @LP.hasN_nil (And.intro @LP.hasN_cons @LP.newV_self)))))))))))))))))
end Go.Cl
