/-
  The clean machine, part 25: a statement whose order is open, that makes no memory of its own, and whose looks stand on one side of each effect: it comes to what it comes to in the text's order.
-/
import Derived.Test.YtndlajhkbepafaaMem
namespace Go.Cl

def wopsV (P : Program) (lib : Prims) (all : List Oper) : List Oper → AFr → ASt → (AFr → ASt → Prop) → Prop
  | [], f, s, Q => Q f s
  | o :: r, f, s, Q =>
    match wantedA all o f with
    | true =>
      match aop P o f s with
      | some (.val v s') => (!quietOp P o || valEq v v) = true ∧ wput f o.dst v fun f' => wopsV P lib all r f' (bif quietOp P o then s else s') Q
      | some (.call g args) => quietOp P o = false ∧ Runs P lib g args s fun v s' => wput f o.dst v fun f' => wopsV P lib all r f' s' Q
      | none => False
    | false => wput f o.dst undef fun f' => wopsV P lib all r f' s Q
def vstep (P : Program) (lib : Prims) (all r : List Oper) (f : AFr) (s : ASt) (d : Option Tmp) (q : Bool) (Q : AFr → ASt → Prop) : Option AR → Prop
  | some (.val v s') => (!q || valEq v v) = true ∧ wput f d v fun f' => wopsV P lib all r f' (bif q then s else s') Q
  | some (.call g args) => q = false ∧ Runs P lib g args s fun v s' => wput f d v fun f' => wopsV P lib all r f' s' Q
  | none => False
def vcall (P : Program) (lib : Prims) (all r : List Oper) (f : AFr) (d : Option Tmp) (Q : AFr → ASt → Prop) (v : Value) (s' : ASt) : Prop := wput f d v fun f' => wopsV P lib all r f' s' Q
def vwant (P : Program) (lib : Prims) (all : List Oper) (o : Oper) (r : List Oper) (f : AFr) (s : ASt) (Q : AFr → ASt → Prop) : Bool → Prop
  | true => vstep P lib all r f s o.dst (quietOp P o) Q (aop P o f s)
  | false => wput f o.dst undef fun f' => wopsV P lib all r f' s Q
theorem wopsV_nil (P : Program) (lib : Prims) (all : List Oper) (f : AFr) (s : ASt) (Q : AFr → ASt → Prop) : wopsV P lib all [] f s Q = Q f s := by simp only [wopsV]
theorem wopsV_cons (P : Program) (lib : Prims) (all : List Oper) (o : Oper) (r : List Oper) (f : AFr) (s : ASt) (Q : AFr → ASt → Prop) : wopsV P lib all (o :: r) f s Q = vwant P lib all o r f s Q (wantedA all o f) := by
  simp only [wopsV]
  cases wantedA all o f with
  | false => rfl
  | true =>
    simp only [vwant]
    cases aop P o f s with
    | none => rfl
    | some a => cases a <;> rfl
theorem vwant_true (P : Program) (lib : Prims) (all : List Oper) (o : Oper) (r : List Oper) (f : AFr) (s : ASt) (Q : AFr → ASt → Prop) : vwant P lib all o r f s Q true = vstep P lib all r f s o.dst (quietOp P o) Q (aop P o f s) := rfl
theorem vwant_false_some (P : Program) (lib : Prims) (all : List Oper) (op : Op) (ty : TypeId) (ps : String) (af : Array Edge) (gd : Option (Nat × Bool)) (r : List Oper) (f : AFr) (s : ASt) (Q : AFr → ASt → Prop) (t : Tmp) : vwant P lib all ⟨some t, op, ty, ps, af, gd⟩ r f s Q false = if t < f.n then wopsV P lib all r (f.put t undef) s Q else False := by
  unfold vwant; simp only; rw [wput_some]
theorem vwant_false_none (P : Program) (lib : Prims) (all : List Oper) (op : Op) (ty : TypeId) (ps : String) (af : Array Edge) (gd : Option (Nat × Bool)) (r : List Oper) (f : AFr) (s : ASt) (Q : AFr → ASt → Prop) : vwant P lib all ⟨none, op, ty, ps, af, gd⟩ r f s Q false = wopsV P lib all r f s Q := rfl
theorem vstep_val (P : Program) (lib : Prims) (all r : List Oper) (f : AFr) (s : ASt) (t : Tmp) (q : Bool) (Q : AFr → ASt → Prop) (v : Value) (s' : ASt) : vstep P lib all r f s (some t) q Q (some (.val v s')) = if (!q || valEq v v) = true ∧ t < f.n then wopsV P lib all r (f.put t v) (bif q then s else s') Q else False := by
  simp only [vstep, wput_some]
  by_cases h1 : (!q || valEq v v) = true <;> by_cases h2 : t < f.n <;> simp [h1, h2]
theorem vstep_val_none (P : Program) (lib : Prims) (all r : List Oper) (f : AFr) (s : ASt) (Q : AFr → ASt → Prop) (v : Value) (s' : ASt) : vstep P lib all r f s none false Q (some (.val v s')) = wopsV P lib all r f s' Q := by
  simp [vstep, wput_none]
theorem vstep_call (P : Program) (lib : Prims) (all r : List Oper) (f : AFr) (s : ASt) (d : Option Tmp) (Q : AFr → ASt → Prop) (g : FuncId) (args : List Value) : vstep P lib all r f s d false Q (some (.call g args)) = Runs P lib g args s (vcall P lib all r f d Q) := by
  simp only [vstep, true_and]; rfl
theorem vcall_some (P : Program) (lib : Prims) (all r : List Oper) (f : AFr) (t : Tmp) (Q : AFr → ASt → Prop) (v : Value) (s' : ASt) : vcall P lib all r f (some t) Q v s' = if t < f.n then wopsV P lib all r (f.put t v) s' Q else False := by
  simp only [vcall, wput_some]
theorem vcall_none (P : Program) (lib : Prims) (all r : List Oper) (f : AFr) (Q : AFr → ASt → Prop) (v : Value) (s' : ASt) : vcall P lib all r f none Q v s' = wopsV P lib all r f s' Q := rfl

/-- No memory made, masks that look back alone, each look on one side of each effect. -/
def tightB (P : Program) (ops : List Oper) : Bool :=
  let ms := masks ops []
  Nat.beq (allocs P ops) 0 && ops.zipIdx.all fun x => !quietOp P x.1 || Nat.ble (countP (fun j => !Nat.testBit (nth0 ms j) x.2) P ops 0) (countP (fun j => Nat.blt j x.2) P ops 0) && Nat.beq (countP (Nat.testBit (nth0 ms x.2)) P ops 0) (countP (fun j => Nat.blt j x.2) P ops 0)

theorem stages_head (P : Program) : ∀ (l : List Oper) (es : List Ev) (T : ASt), ∃ r, stagesOf P l es T = T :: r := by
  intro l
  induction l with
  | nil => intro es T; exact ⟨[], by cases es <;> rfl⟩
  | cons o l ih =>
    intro es T
    cases es with
    | nil => exact ⟨[], rfl⟩
    | cons e es =>
      simp only [stagesOf]
      split
      · exact ⟨_, rfl⟩
      · split
        · exact ⟨_, rfl⟩
        · exact ih es T

/-- How many effects stand ahead of a place. -/
def effs (P : Program) : List Oper → Nat → Nat
  | [], _ => 0
  | _, 0 => 0
  | o :: r, n + 1 => if effectOp P o then effs P r n + 1 else effs P r n
theorem countP_before (P : Program) : ∀ (l : List Oper) (i n : Nat), countP (fun j => Nat.blt j (i + n)) P l i = effs P l n := by
  intro l
  induction l with
  | nil => intro i n; cases n <;> rfl
  | cons o l ih =>
    intro i n
    simp only [countP]
    cases n with
    | zero =>
      have h0 : ∀ (l : List Oper) (k : Nat), i ≤ k → countP (fun j => Nat.blt j (i + 0)) P l k = 0 := by
        intro l
        induction l with
        | nil => intro k _; rfl
        | cons p l ihl =>
          intro k hk
          have hb : Nat.blt k (i + 0) = false := by rw [← Bool.not_eq_true, Nat.blt_eq]; omega
          simp only [countP, hb, Bool.and_false, Bool.false_eq_true, if_false]
          exact ihl (k + 1) (by omega)
      have hb : Nat.blt i (i + 0) = false := by rw [← Bool.not_eq_true, Nat.blt_eq]; omega
      simp only [hb, Bool.and_false, Bool.false_eq_true, if_false, effs]
      exact h0 l (i + 1) (by omega)
    | succ n =>
      have hb : Nat.blt i (i + (n + 1)) = true := by rw [Nat.blt_eq]; omega
      have e : i + (n + 1) = (i + 1) + n := by omega
      simp only [hb, Bool.and_true, effs]
      rw [e, ih (i + 1) n]
theorem effs_append (P : Program) : ∀ (a b : List Oper), effs P (a ++ b) a.length = effs P a a.length := by
  intro a
  induction a with
  | nil => intro b; cases b <;> rfl
  | cons o a ih => intro b; simp only [List.cons_append, List.length_cons, effs]; rw [ih b]
theorem effs_snoc (P : Program) (o : Oper) : ∀ (a : List Oper), effs P (a ++ [o]) (a ++ [o]).length = if effectOp P o then effs P a a.length + 1 else effs P a a.length := by
  intro a
  induction a with
  | nil => rfl
  | cons p a ih => simp only [List.cons_append, List.length_cons, effs]; rw [ih]; split <;> split <;> rfl

theorem allocs_zero {P : Program} : ∀ {l : List Oper}, allocs P l = 0 → ∀ o ∈ l, allocOp P o = false := by
  intro l
  induction l with
  | nil => intro _ o h; cases h
  | cons p l ih =>
    intro h o ho
    simp only [allocs] at h
    split at h
    · omega
    · rename_i hp
      rcases List.mem_cons.mp ho with rfl | ho
      · simpa using hp
      · exact ih h o ho

theorem drawOps_tight {P : Program} {lib : Prims} {all : List Oper} (msA : List Nat) {Q : AFr → ASt → Prop}
    (htight : ∀ (o : Oper) (i : Nat), all[i]? = some o → quietOp P o = true → countP (fun j => !Nat.testBit (nth0 msA j) i) P all 0 ≤ effs P all i ∧ countP (Nat.testBit (nth0 msA i)) P all 0 = effs P all i) :
    ∀ (l pre : List Oper) (ms : List Nat) (id : Nat) (f : AFr) (T : ASt), all = pre ++ l → (∀ o ∈ l, allocOp P o = false) → ms = msA.drop pre.length → ms.length = l.length → wopsV P lib all l f T Q →
    ∃ es f' T', (∃ n, ∀ m, n ≤ m → drawOps P (acall P lib m) all ms l pre.length id f T [] = some es) ∧ (∀ k, madeOf es k = []) ∧ (stagesOf P l es T).getLastD T = T' ∧ framesOf l es f = f' ∧
      (∀ sts before, sts = before ++ stagesOf P l es T → before.length = effs P pre pre.length → checkAll P all msA [] sts ms l es pre.length f = true) ∧ Q f' T' := by
  intro l
  induction l with
  | nil =>
    intro pre ms id f T _ _ _ hl hw
    rw [wopsV_nil] at hw
    cases ms with
    | cons m r => simp at hl
    | nil => exact ⟨[], f, T, ⟨0, fun _ _ => rfl⟩, fun _ => rfl, rfl, rfl, fun _ _ _ _ => rfl, hw⟩
  | cons o r ih =>
    intro pre ms id f T hall hna hms hl hw
    cases ms with
    | nil => simp at hl
    | cons m ms =>
    have hnao := hna o (List.mem_cons_self ..)
    have hnar : ∀ p ∈ r, allocOp P p = false := fun p hp => hna p (List.mem_cons_of_mem _ hp)
    have hlr : ms.length = r.length := by simpa using hl
    have hall' : all = (pre ++ [o]) ++ r := by rw [hall, List.append_assoc]; rfl
    have hlen' : (pre ++ [o]).length = pre.length + 1 := by simp
    have hms' : ms = msA.drop (pre ++ [o]).length := by
      rw [hlen', ← List.drop_drop, ← hms]; rfl
    have hmA : nth0 msA pre.length = m := by
      have nth0_drop : ∀ (L : List Nat) (k : Nat) (x : Nat) (t : List Nat), L.drop k = x :: t → nth0 L k = x := by
        intro L
        induction L with
        | nil => intro k x t h; simp at h
        | cons y L ihL =>
          intro k x t h
          cases k with
          | zero => simp at h; exact h.1
          | succ k => simp only [List.drop_succ_cons] at h; simp only [nth0]; exact ihL k x t h
      exact nth0_drop msA pre.length m ms hms.symm
    have hget : all[pre.length]? = some o := by rw [hall]; simp
    have heffs : effs P all pre.length = effs P pre pre.length := by rw [hall, effs_append]
    have hsn := effs_snoc P o pre
    have hput : ∀ (v : Value) (T' : ASt), (wput f o.dst v fun f' => wopsV P lib all r f' T' Q) → ∃ f1, putD f o.dst v = some f1 ∧ wopsV P lib all r f1 T' Q := by
      intro v T' h
      unfold wput at h
      split at h
      · exact ⟨_, ‹_›, h⟩
      · exact h.elim
    rw [wopsV_cons] at hw
    cases hwa : wantedA all o f with
    | false =>
      rw [hwa] at hw
      obtain ⟨f1, hp, hw⟩ := hput _ _ hw
      obtain ⟨es, f', T', ⟨n, h1⟩, h2, h3, h4, h5, h6⟩ := ih (pre ++ [o]) ms id f1 T hall' hnar hms' hlr hw
      rw [hlen'] at h1 h5
      refine ⟨.skip :: es, f', T', ⟨n, fun q hq => ?_⟩, fun k => by simp only [madeOf, h2], ?_, by simp only [framesOf, Ev.val, hp, h4], fun sts before hst hb => ?_, h6⟩
      · simp only [drawOps, drawOp, hwa, Ev.val, hp, hnao]
        rw [if_neg (by simp), h1 q hq]
      · simp only [stagesOf]
        split
        · obtain ⟨rr, hr⟩ := stages_head P r es T
          rw [hr] at h3 ⊢
          simpa using h3
        · exact h3
      · simp only [checkAll, Ev.val, hp, Bool.true_and]
        simp only [stagesOf] at hst
        split at hst
        · rename_i he
          refine h5 sts (before ++ [T]) (by rw [hst, List.append_assoc]; rfl) ?_
          rw [← hlen', hsn, if_pos he, List.length_append, hb]; rfl
        · rename_i he
          refine h5 sts before hst ?_
          rw [← hlen', hsn, if_neg he, hb]
    | true =>
      rw [hwa] at hw
      simp only [vwant] at hw
      unfold vstep at hw
      split at hw
      case h_3 => exact hw.elim
      · rename_i v s1 hop
        obtain ⟨hv, hw⟩ := hw
        obtain ⟨f1, hp, hw⟩ := hput _ _ hw
        cases hq : quietOp P o with
        | true =>
          have hne := quiet_not_effect hq
          rw [hq] at hw
          have hs1 : wopsV P lib all r f1 T Q := hw
          obtain ⟨es, f', T', ⟨n, h1⟩, h2, h3, h4, h5, h6⟩ := ih (pre ++ [o]) ms id f1 T hall' hnar hms' hlr hs1
          rw [hlen'] at h1 h5
          have hv' : valEq v v = true := by simpa [hq] using hv
          refine ⟨.quiet v :: es, f', T', ⟨n, fun q hqm => ?_⟩, fun k => by simp only [madeOf, h2], ?_, by simp only [framesOf, Ev.val, hp, h4], fun sts before hst hb => ?_, h6⟩
          · simp only [drawOps, drawOp, hwa, hq, Cl.fill, hop, Ev.val, hp, hnao]
            rw [if_neg (by simp), h1 q hqm]
          · simp only [stagesOf, hne]; simpa using h3
          · have hst' : sts = before ++ stagesOf P r es T := by simpa [stagesOf, hne] using hst
            simp only [checkAll, Ev.val, hp]
            rw [h5 sts before hst' (by rw [← hlen', hsn, if_neg (by simp [hne]), hb]), Bool.and_true]
            obtain ⟨t1, t2⟩ := htight o pre.length hget hq
            rw [hmA] at t2
            rw [t2]
            obtain ⟨rr, hr⟩ := stages_head P r es T
            have hsub : ∀ x ∈ (sts.take (countP (fun j => !Nat.testBit (nth0 msA j) pre.length) P all 0 + 1)).drop (effs P all pre.length), x = T := by
              intro x hx
              have hc : countP (fun j => !Nat.testBit (nth0 msA j) pre.length) P all 0 + 1 ≤ before.length + 1 := by rw [hb, ← heffs]; omega
              rw [heffs, ← hb, List.drop_take, hst', hr, List.drop_left] at hx
              have hk : countP (fun j => !Nat.testBit (nth0 msA j) pre.length) P all 0 + 1 - before.length ≤ 1 := by omega
              generalize countP (fun j => !Nat.testBit (nth0 msA j) pre.length) P all 0 + 1 - before.length = k at hx hk
              cases k with
              | zero => simp at hx
              | succ k =>
                obtain rfl : k = 0 := by omega
                simpa using hx
            generalize (sts.take (countP (fun j => !Nat.testBit (nth0 msA j) pre.length) P all 0 + 1)).drop (effs P all pre.length) = L at hsub
            clear hst hst' h5
            induction L with
            | nil => rfl
            | cons x L ihL =>
              obtain rfl := hsub x (List.mem_cons_self ..)
              simp only [sameAt, Cl.fill, hop, hv', Bool.true_and]
              exact ihL (fun y hy => hsub y (List.mem_cons_of_mem _ hy))
        | false =>
          have he : effectOp P o = true := by simp [effectOp, hq, hnao]
          rw [hq] at hw
          obtain ⟨es, f', T', ⟨n, h1⟩, h2, h3, h4, h5, h6⟩ := ih (pre ++ [o]) ms id f1 s1 hall' hnar hms' hlr hw
          rw [hlen'] at h1 h5
          refine ⟨.eff v s1 :: es, f', T', ⟨n, fun q hqm => ?_⟩, fun k => by simp only [madeOf, h2], ?_, by simp only [framesOf, Ev.val, hp, h4], fun sts before hst hb => ?_, h6⟩
          · simp only [drawOps, drawOp, hwa, hq, Cl.fill, hop, Ev.val, hp, hnao]
            rw [if_neg (by simp), h1 q hqm]
          · simp only [stagesOf]
            obtain ⟨rr, hr⟩ := stages_head P r es s1
            rw [hr] at h3 ⊢
            rw [List.getLastD_cons] at h3 ⊢
            rw [List.getLastD_cons]; exact h3
          · simp only [checkAll, Ev.val, hp, Bool.true_and]
            simp only [stagesOf] at hst
            refine h5 sts (before ++ [T]) (by rw [hst, List.append_assoc]; rfl) ?_
            rw [← hlen', hsn, if_pos he, List.length_append, hb]; rfl
      · rename_i g args hop
        obtain ⟨hq, v, s1, ⟨nc, hc⟩, hw⟩ := hw
        obtain ⟨f1, hp, hw⟩ := hput _ _ hw
        have he : effectOp P o = true := by simp [effectOp, hq, hnao]
        obtain ⟨es, f', T', ⟨n, h1⟩, h2, h3, h4, h5, h6⟩ := ih (pre ++ [o]) ms id f1 s1 hall' hnar hms' hlr hw
        rw [hlen'] at h1 h5
        refine ⟨.eff v s1 :: es, f', T', ⟨n + nc, fun q hqm => ?_⟩, fun k => by simp only [madeOf, h2], ?_, by simp only [framesOf, Ev.val, hp, h4], fun sts before hst hb => ?_, h6⟩
        · simp only [drawOps, drawOp, hwa, hq, Cl.fill, hop, hc q (by omega), Ev.val, hp, hnao]
          rw [if_neg (by simp), h1 q (by omega)]
        · simp only [stagesOf]
          obtain ⟨rr, hr⟩ := stages_head P r es s1
          rw [hr] at h3 ⊢
          rw [List.getLastD_cons] at h3 ⊢
          rw [List.getLastD_cons]; exact h3
        · simp only [checkAll, Ev.val, hp, Bool.true_and]
          simp only [stagesOf] at hst
          refine h5 sts (before ++ [T]) (by rw [hst, List.append_assoc]; rfl) ?_
          rw [← hlen', hsn, if_pos he, List.length_append, hb]; rfl

theorem Drawn.tight {P : Program} {lib : Prims} {ops : List Oper} (ht : tightB P ops = true) {f : AFr} {s : ASt} {Q : AFr → ASt → Prop} (h : wopsV P lib ops ops f s Q) : Drawn P lib ops f s Q := by
  simp only [tightB, Bool.and_eq_true, List.all_eq_true, Bool.or_eq_true, Bool.not_eq_true'] at ht
  obtain ⟨ha, ht⟩ := ht
  have hal : allocs P ops = 0 := by simpa [Nat.beq_eq] using ha
  have hms : (masks ops []).length = ops.length := by
    obtain ⟨r, h1, h2⟩ := masks_pre ops []
    rw [h1]; simpa using h2
  obtain ⟨es, f', T', ⟨n, h1⟩, h2, h3, h4, h5, h6⟩ := drawOps_tight (masks ops []) (fun o i hi hq => by
    have := ht (o, i) (by rw [List.mem_zipIdx_iff_getElem?]; simpa using hi)
    have hcb := countP_before P ops 0 i
    rw [Nat.zero_add] at hcb
    rcases this with h | h
    · rw [hq] at h; cases h
    · obtain ⟨t1, t2⟩ := h
      rw [hcb] at t1 t2
      exact ⟨by simpa [Nat.ble_eq] using t1, by simpa [Nat.beq_eq] using t2⟩) ops [] (masks ops []) s.next f s rfl (allocs_zero hal) rfl hms h
  simp only [List.nil_append] at h1 h5
  refine ⟨f', T', ⟨n, fun m hm => ?_⟩, h6⟩
  have hs : (⟨s.heap, s.next + allocs P ops⟩ : ASt) = s := by rw [hal]; rfl
  unfold drawRun
  rw [hs]
  have h1' := h1 m hm
  simp only [List.length_nil] at h1'
  rw [h1']
  have h5' := h5 (stagesOf P ops es s) [] rfl rfl
  simp only [List.length_nil] at h5'
  simp only [h2, h5', h3, h4, Cl.fill]
theorem Drawn.tight' {P : Program} {lib : Prims} {ops : List Oper} {f : AFr} {s : ASt} {Q : AFr → ASt → Prop} (ht : tightB P ops = true) (h : wopsV P lib ops ops f s Q) : wdraw P lib ops f s Q false := Drawn.tight ht h
end Go.Cl
