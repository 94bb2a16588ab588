/-
  The clean machine, part 11: statements, code, calls: what the machine says is so.
-/
import Derived.Test.YtcchnnmomigleaaCl10
namespace Go.Cl
open Go.RowKit

theorem FR.put {S : St} {f f' : AFr} {a : Act} {d : Option Tmp} {v v' : Value} (hf : FR S f a) (hv : VR S v v') (h : putD f d v = some f') : FR S f' (a.put d v') := by
  unfold putD at h
  split at h
  · rename_i t0
    obtain ⟨t, rfl⟩ : ∃ t : Nat, t = t0 := ⟨t0, rfl⟩
    split at h
    · rename_i ht
      obtain rfl := Option.some.inj h
      have ht' : t < f.n := by simpa [Nat.blt_eq] using ht
      have hn := hf.n
      refine ⟨by simp [AFr.put, Act.put, hf.n], hf.small, fun u hu => ?_⟩
      have hu' : u < f.n := hu
      have hts : t < 16000001 := by have := hf.small; omega
      have hsz : t < a.tmps.size := by omega
      by_cases htu : t = u
      · subst htu
        have e1 : (f.put t v).get t = v := by simp only [AFr.get, AFr.put, Tr.get_set_self _ _ _ _ (deep hts)]
        have e2 : (a.put (some t) v').tmps.getD t undef = v' := by
          simp [Act.put, hsz]
        rw [e1, e2]; exact hv
      · have e1 : (f.put t v).get u = f.get u := by simp only [AFr.get, AFr.put, Tr.get_set_ne _ _ _ _ _ htu]
        have e2 : (a.put (some t) v').tmps.getD u undef = a.tmps.getD u undef := by
          simp [Act.put, Array.getElem?_setIfInBounds_ne htu]
        rw [e1, e2]; exact hf.get u hu'
    · cases h
  · obtain rfl := Option.some.inj h
    exact hf
theorem put_defers (a : Act) (d : Option Tmp) (v : Value) : (a.put d v).defers = a.defers := by cases d <;> rfl

theorem yield_eq {S : St} {f : AFr} {a : Act} (hf : FR S f a) (ops : List Oper) (j : Nat) : yieldA ops f j = yielded ops.toArray a.tmps j := by
  have hj : (ops.toArray)[j]? = (ops.drop j).head? := by rw [List.getElem?_toArray, List.head?_drop]
  unfold yieldA yielded
  rw [hj]
  cases ops.drop j with
  | nil => rfl
  | cons o r =>
    simp only [List.head?_cons, Option.bind_some]
    cases o.dst with
    | none => rfl
    | some d0 =>
      obtain ⟨d, rfl⟩ : ∃ d : Nat, d = d0 := ⟨d0, rfl⟩
      simp only [Option.bind_some]
      by_cases hd : d < f.n
      · rw [if_pos (by simpa [Nat.blt_eq] using hd)]
        have hv := hf.get d hd
        have hsz : d < a.tmps.size := by rw [← hf.n]; exact hd
        have e : a.tmps[d]? = some (a.tmps.getD d undef) := by simp [hsz]
        rw [e]
        generalize a.tmps.getD d undef = v' at hv
        generalize f.get d = v0 at hv
        cases hv <;> rfl
      · rw [if_neg (by simpa [Nat.blt_eq] using hd)]
        have e : a.tmps[d]? = none := Array.getElem?_eq_none (by have := hf.n; omega)
        rw [e]
theorem wanted_eq {S : St} {f : AFr} {a : Act} (hf : FR S f a) (ops : List Oper) (o : Oper) : wantedA ops o f = Region.wanted o (yielded ops.toArray a.tmps) := by
  unfold wantedA Region.wanted
  cases o.guard with
  | none => rfl
  | some p =>
    obtain ⟨j, want⟩ := p
    simp only [yield_eq hf]
    cases yielded ops.toArray a.tmps j <;> rfl

/-- A call by the machine is a call by the model. -/
def CallOk (P : Program) (call : FuncId → List Value → ASt → Option (Value × ASt)) : Prop :=
  ∀ (base : Nat) (S : St) (g : FuncId) (args : List Value) (v : Value) (s' : ASt), SR base S → call g args S.s = some (v, s') → ∀ args' : Array Value, VRL S args args'.toList →
    (∀ w, (callFunc g args').run P w = .ok (.enter g args') w) ∧ Calls P g args' S.w fun e w' => ∃ T v', T.s = s' ∧ T.w = w' ∧ e = .returned v' ∧ VR T v v' ∧ Good base S T

theorem runOps_ok {P : Program} {call : FuncId → List Value → ASt → Option (Value × ASt)} (hcall : CallOk P call) (all : List Oper) (base : Nat) : ∀ (l : List Oper) (f : AFr) (S : St) (f' : AFr) (s' : ASt) (a : Act) (Q : Exit → Act → World → Prop),
    runOps P call all l f S.s = some (f', s') → SR base S → FR S f a → (∀ T a', T.s = s' → Good base S T → FR T f' a' → a'.defers = a.defers → Q .normal a' T.w) → wpList P all.toArray Q l a S.w := by
  intro l
  induction l with
  | nil =>
    intro f S f' s' a Q hr hs hf hq
    simp only [runOps] at hr
    injection hr with hr; injection hr with e1 e2; subst e1; subst e2
    exact hq S a rfl (Good.refl hs) hf rfl
  | cons o l ih =>
    intro f S f' s' a Q hr hs hf hq
    simp only [runOps] at hr
    unfold wpList
    rw [← wanted_eq hf]
    split at hr
    · rename_i hw
      rw [if_pos hw]
      refine .inl ?_
      unfold Oper.wp
      split at hr
      · rename_i v s1 hop
        split at hr
        · rename_i f1 hp
          obtain ⟨T, v', rfl, hv, hg, hrun⟩ := aop_ok hs hf _ hop
          have hf1 := (hf.mono hg.ext).put hv hp
          have next := ih f1 T f' s' (a.put o.dst v') Q hr hg.sr hf1 (fun U a' e g hfa hd => hq U a' e (hg.trans g) hfa (hd.trans (put_defers _ _ _)))
          rcases hrun with hrun | ⟨hrun, rfl⟩
          · rw [hrun]; exact next
          · rw [hrun]; exact next
        · cases hr
      · rename_i g args hop
        split at hr
        · rename_i v s1 hc
          split at hr
          · rename_i f1 hp
            obtain ⟨args', hva, he⟩ := aop_ok hs hf _ hop
            obtain ⟨hrun, hcalls⟩ := hcall base S g args v s1 hs hc args' hva
            rw [he, hrun]
            refine Calls.mono hcalls ?_
            rintro e w' ⟨T, v', rfl, rfl, rfl, hv, hg⟩
            have hf1 := (hf.mono hg.ext).put hv hp
            exact ih f1 T f' s' (a.put o.dst v') Q hr hg.sr hf1 (fun U a' e g hfa hd => hq U a' e (hg.trans g) hfa (hd.trans (put_defers _ _ _)))
          · cases hr
        · cases hr
      · cases hr
    · rename_i hw
      rw [if_neg hw]
      split at hr
      · rename_i f1 hp
        exact ih f1 S f' s' (a.put o.dst undef) Q hr hs (hf.put (VR.undef' S) hp) (fun U a' e g hfa hd => hq U a' e g hfa (hd.trans (put_defers _ _ _)))
      · cases hr

theorem still_ok {P : Program} {call : FuncId → List Value → ASt → Option (Value × ASt)} (all : List Oper) {base : Nat} {S : St} (hs : SR base S) : ∀ (l : List Oper) (f f' : AFr) (s' : ASt) (a : Act) (Q : Act → Prop), l.all (quietOp P) = true →
    runOps P call all l f S.s = some (f', s') → FR S f a → (s' = S.s → ∀ a', FR S f' a' → a'.defers = a.defers → Q a') → wpStill P all.toArray S.w Q l a := by
  intro l
  induction l with
  | nil =>
    intro f f' s' a Q _ hr hf hq
    simp only [runOps] at hr
    injection hr with hr; injection hr with e1 e2; subst e1; subst e2
    exact hq rfl a hf rfl
  | cons o l ih =>
    intro f f' s' a Q hall hr hf hq
    simp only [List.all_cons, Bool.and_eq_true] at hall
    simp only [runOps] at hr
    unfold wpStill
    rw [← wanted_eq hf]
    split at hr
    · rename_i hw
      rw [if_pos hw]
      split at hr
      · rename_i v s1 hop
        split at hr
        · rename_i f1 hp
          obtain ⟨v2, e, v', hv, hrun⟩ := aop_quiet hs hf hall.1 _ hop
          injection e with e1 e2
          subst e1; subst e2
          have hf1 := hf.put hv hp
          unfold Oper.still
          rw [hrun]
          simp only [Oper.stillUpon]
          exact ⟨trivial, ih f1 f' s' (a.put o.dst v') Q hall.2 hr hf1 (fun e a' hfa hd => hq e a' hfa (hd.trans (put_defers _ _ _)))⟩
        · cases hr
      · rename_i g args hop
        obtain ⟨v2, e, _⟩ := aop_quiet hs hf hall.1 _ hop
        cases e
      · cases hr
    · rename_i hw
      rw [if_neg hw]
      split at hr
      · rename_i f1 hp
        exact ih f1 f' s' (a.put o.dst undef) Q hall.2 hr (hf.put (VR.undef' S) hp) (fun e a' hfa hd => hq e a' hfa (hd.trans (put_defers _ _ _)))
      · cases hr

theorem runOps_append {P : Program} {call : FuncId → List Value → ASt → Option (Value × ASt)} {all : List Oper} : ∀ (l1 l2 : List Oper) (f : AFr) (s : ASt),
    runOps P call all (l1 ++ l2) f s = match runOps P call all l1 f s with
      | some (f1, s1) => runOps P call all l2 f1 s1
      | none => none := by
  intro l1
  induction l1 with
  | nil => intro l2 f s; rfl
  | cons o l1 ih =>
    intro l2 f s
    simp only [List.cons_append, runOps]
    split
    · split
      · split
        · exact ih _ _ _
        · rfl
      · split
        · split
          · exact ih _ _ _
          · rfl
        · rfl
      · rfl
    · split
      · exact ih _ _ _
      · rfl

theorem Good.drew {base : Nat} {S : St} (h : SR base S) : Good base S ⟨S.s, S.e, S.w.drew⟩ := by
  have hext : Ext S ⟨S.s, S.e, S.w.drew⟩ := ⟨fun _ b hb => ⟨b, hb, Nat.le_refl _, Nat.le_refl _, rfl, fun _ _ _ => rfl⟩, fun _ es he => ⟨⟨es, he⟩, rfl⟩, fun _ arr _ fr hk => ⟨arr, fr, hk, rfl⟩⟩
  refine ⟨⟨h.room, h.bound, h.low, fun i b hb c hc p hp => ?_, h.own, fun r es he => ?_, h.mapInj, h.size, h.inb⟩, hext, (Below.refl _ _).drew⟩
  · obtain ⟨v, h1, h2⟩ := h.cell i b hb c hc p hp
    exact ⟨v, h1, h2.mono hext⟩
  · obtain ⟨h1, es', clk, h2, h3⟩ := h.map r es he
    exact ⟨h1, es', clk, h2, h3.mono hext⟩

theorem headLen_spec (P : Program) : ∀ l : List Oper, (l.take (headLen P l)).all (quietOp P) = true
  | [] => rfl
  | o :: r => by
    unfold headLen
    split
    · rename_i h; simp only [List.take_succ_cons, List.all_cons, h, Bool.true_and]; exact headLen_spec P r
    · rfl

theorem region_ok {P : Program} {call : FuncId → List Value → ASt → Option (Value × ASt)} (hcall : CallOk P call) (hm : P.follows .mixedOrders = true) {id : Nat} {ops : Array Oper} {d : Bool} (hok : codeOk P (.region id ops d) = true) {base : Nat} {f : AFr} {S : St} {f' : AFr} {s' : ASt} {a : Act}
    {Q : Exit → Act → World → Prop} (hr : runOps P call ops.toList ops.toList f S.s = some (f', s')) (hs : SR base S) (hf : FR S f a) (hq : ∀ T a', T.s = s' → Good base S T → FR T f' a' → a'.defers = a.defers → Q .normal a' T.w) :
    (Code.region id ops d).wp P Q a S.w := by
  cases d with
  | false => 
    refine wp_region_list ?_
    have := runOps_ok hcall ops.toList base ops.toList f S f' s' a Q hr hs hf hq
    simpa using this
  | true =>
    have hd := Good.drew hs
    have hfd := hf.mono hd.ext
    simp only [codeOk, Bool.or_eq_true, Bool.and_eq_true] at hok
    rcases hok with ⟨hlex, hall⟩ | htail
    · refine wp_region_still hm hlex ?_
      have := still_ok (call := call) ops.toList hd.sr ops.toList f f' s' a (fun a' => Q .normal a' S.w.drew) hall hr hfd (fun e a' hfa hda => hq ⟨S.s, S.e, S.w.drew⟩ a' e.symm hd hfa hda)
      simpa using this
    · have e : ops = ops.toList.toArray := by simp
      rw [e] at htail ⊢
      refine wp_region_still_tail (headLen P ops.toList) hm htail ?_
      have hsplit : ops.toList.take (headLen P ops.toList) ++ ops.toList.drop (headLen P ops.toList) = ops.toList := List.take_append_drop _ _
      have hr2 : runOps P call ops.toList (ops.toList.take (headLen P ops.toList) ++ ops.toList.drop (headLen P ops.toList)) f S.s = some (f', s') := by rw [hsplit]; exact hr
      rw [runOps_append] at hr2
      split at hr2
      · rename_i f1 s1 h1
        refine still_ok (call := call) ops.toList hd.sr _ f f1 s1 a _ (headLen_spec P ops.toList) h1 hfd (fun e1 a' hfa hda => ?_)
        subst e1
        exact runOps_ok hcall ops.toList base _ f1 ⟨S.s, S.e, S.w.drew⟩ f' s' a' Q hr2 hd.sr hfa (fun T a2 e g hf2 hd2 => hq T a2 e (hd.trans g) hf2 (hd2.trans hda))
      · cases hr2

/-! Code. -/
def exitOf : AX → Exit
  | .normal => .normal
  | .exit id => .exit id
  | .ret => .ret

def ExecOk (P : Program) (ex : Code → AFr → ASt → Out) : Prop :=
  ∀ (c : Code) (base : Nat) (f : AFr) (S : St) (x : AX) (f' : AFr) (s' : ASt) (a : Act) (Q : Exit → Act → World → Prop), codeOk P c = true → ex c f S.s = some (x, f', s') → SR base S → FR S f a →
    (∀ T a', T.s = s' → Good base S T → FR T f' a' → a'.defers = a.defers → Q (exitOf x) a' T.w) → c.wp P Q a S.w
def LoopOk (P : Program) (ex : Code → AFr → ASt → Out) (n : Nat) : Prop :=
  ∀ (c : Code) (base : Nat) (f : AFr) (S : St) (x : AX) (f' : AFr) (s' : ASt) (a : Act) (Q : Exit → Act → World → Prop), codeOk P c = true → ex (.loop c) f S.s = some (x, f', s') → SR base S → FR S f a →
    (∀ T a', T.s = s' → Good base S T → FR T f' a' → a'.defers = a.defers → Q (exitOf x) a' T.w) → Code.rounds P c Q n a S.w

theorem setAll_get : ∀ (vs : List Value) (t : Tr Value) (i j : Nat), i + vs.length ≤ 16000000 → (setAll t i vs).get j = if i ≤ j ∧ j < i + vs.length then some (vs.getD (j - i) undef) else t.get j := by
  intro vs
  induction vs with
  | nil => intro t i j _; rw [setAll, if_neg (by simp)]
  | cons v r ih =>
    intro t i j h
    simp only [List.length_cons] at h
    rw [setAll, ih _ _ _ (by omega)]
    by_cases hj : i + 1 ≤ j ∧ j < i + 1 + r.length
    · rw [if_pos hj, if_pos (by simp; omega), show j - i = (j - (i + 1)) + 1 by omega, List.getD_cons_succ]
    · rw [if_neg hj]
      by_cases hij : i = j
      · subst hij
        rw [Tr.get_set_self _ _ _ _ (deep (by omega)), if_pos (by simp), Nat.sub_self, List.getD_cons_zero]
      · rw [Tr.get_set_ne _ _ _ _ _ hij, if_neg (by simp; omega)]

theorem FR.enter {S : St} {fn : Func} {args : List Value} {args' : Array Value} (hv : VRL S args args'.toList) (hsm : args.length + (fn.ntmps - args.length) ≤ 16000000) :
    FR S (enterA fn args) { tmps := args' ++ Array.replicate (fn.ntmps - args'.size) undef, defers := [] } := by
  have hl : args.length = args'.size := by have := hv.1; simpa using this
  refine ⟨by simp [enterA, hl], hsm, fun t ht => ?_⟩
  have hget : (enterA fn args).get t = if t < args.length then args.getD t undef else undef := by
    simp only [enterA, AFr.get, setAll_get args .nil 0 t (by omega), Nat.zero_le, true_and, Nat.zero_add, Nat.sub_zero]
    by_cases h : t < args.length
    · simp only [if_pos h]
    · simp only [if_neg h, Tr.get]
  rw [hget]
  by_cases h : t < args.length
  · rw [if_pos h]
    have e : (args' ++ Array.replicate (fn.ntmps - args'.size) undef).getD t undef = args'.toList.getD t undef := by
      have h2 : t < args'.size := by omega
      simp [Array.getElem?_append, h2]
    rw [e]
    exact hv.2 t h
  · rw [if_neg h]
    have e : (args' ++ Array.replicate (fn.ntmps - args'.size) undef).getD t undef = undef := by
      have h2 : ¬ t < args'.size := by omega
      simp [Array.getElem?_append, h2, Array.getElem?_replicate]
      by_cases h3 : t - args'.size < fn.ntmps - args'.size
      · rw [if_pos h3]; rfl
      · rw [if_neg h3]; rfl
    rw [e]
    exact VR.undef' S

theorem resultsA_ok {P : Program} {base : Nat} {S : St} (hs : SR base S) {f : AFr} {a : Act} (hf : FR S f a) : ∀ {rs : List ResultVar} {l : List Value}, resultsA P f S.s rs = some l →
    ∃ l', (rs.mapM fun (r : ResultVar) => (match r with | .tmp t => pure (a.tmps.getD t undef) | .cell x t => do loadVar t (← asAddr (a.tmps.getD x undef)) : Sem Value)).run P S.w = .ok l' S.w ∧ VRL S l l' := by
  intro rs
  induction rs with
  | nil => intro l h; simp only [resultsA] at h; obtain rfl := Option.some.inj h; exact ⟨[], by simp, VRL.nil⟩
  | cons r rs ih =>
    intro l h
    cases r with
    | tmp t =>
      simp only [resultsA] at h
      split at h
      · rename_i ht
        split at h
        · rename_i m hm
          obtain rfl := Option.some.inj h
          obtain ⟨l', h1, h2⟩ := ih hm
          refine ⟨a.tmps.getD t undef :: l', ?_, VRL.cons (hf.get t (by simpa [Nat.blt_eq] using ht)) h2⟩
          rw [List.mapM_cons]
          simp only [Sem.run_bind, Sem.run_pure, Result.andThen_ok, h1]
        · cases h
      · cases h
    | cell x t =>
      simp only [resultsA] at h
      split at h
      · rename_i hx
        split at h
        · rename_i v m hv hm
          obtain rfl := Option.some.inj h
          obtain ⟨l', h1, h2⟩ := ih hm
          have hp := hf.get x (by simpa [Nat.blt_eq] using hx)
          obtain ⟨v', h3, h4⟩ := loadA_ok hs hp hv
          unfold loadA at hv
          split at hv
          · rename_i i off c hpe
            rw [hpe] at hp
            obtain ⟨a1, e1, _⟩ := hp.ptr_inv
            rw [e1] at h3
            simp only [Instr.loadAt, Instr.sureAddr, pure_bind] at h3
            refine ⟨v' :: l', ?_, VRL.cons h4 h2⟩
            rw [List.mapM_cons]
            have ea : asAddr (a.tmps.getD x undef) = pure a1 := by rw [e1]; rfl
            simp only [ea, Sem.run_bind, Sem.run_pure, Result.andThen_ok, h3, h1]
          · cases hv
        · cases h
      · cases h

theorem call_ok {P : Program} {bad : List Nat} {ex : Code → AFr → ASt → Out} (hfn : ∀ g fn, P.funcs[g]? = some fn → fnOk P bad g fn = true) (hex : ExecOk P ex) : CallOk P (callStep P bad ex) := by
  intro base S g args v s' hs hc args' hva
  unfold callStep at hc
  split at hc
  · cases hc
  rename_i hbad
  split at hc
  case h_2 => cases hc
  rename_i fn hg
  split at hc
  case h_2 => cases hc
  rename_i c hb hsm
  have hk := hfn g fn hg
  simp only [fnOk, Bool.and_eq_true, Bool.or_eq_true, hbad, hb, bne_iff_ne, ne_eq] at hk
  obtain ⟨hname, hcode⟩ := hk
  have hcode' : codeOk P c = true := by simpa using hcode
  refine ⟨fun w => ?_, ?_⟩
  · simp [callFunc, hg, hname, hb]
  have hfr : FR S (enterA fn args) { tmps := args' ++ Array.replicate (fn.ntmps - args'.size) undef, defers := [] } := FR.enter hva (by simpa [Nat.ble_eq] using hsm)
  have fin : ∀ (x : AX) (f : AFr) (l : List Value), (x = .normal ∨ x = .ret) → ex c (enterA fn args) S.s = some (x, f, s') → resultsA P f s' fn.results.toList = some l → v = oneOf l →
      Calls P g args' S.w fun e w' => ∃ T v', T.s = s' ∧ T.w = w' ∧ e = .returned v' ∧ VR T v v' ∧ Good base S T := by
    intro x f l hx he hl hv
    refine calls_of_wp hg hb (hex c base _ S x f s' _ _ hcode' he hs hfr ?_)
    intro T a' hTs hgood hfa hda
    subst hTs
    obtain ⟨l', h1, h2⟩ := resultsA_ok hgood.sr hfa hl
    have hlen := h2.1
    have hres : ∃ v', (results fn a'.tmps).run P T.w = .ok v' T.w ∧ VR T v v' := by
      have hm : (results fn a'.tmps).run P T.w = .ok (if h : l'.toArray.size = 1 then l'.toArray[0] else .tuple l'.toArray) T.w := by
        unfold results
        rw [Array.mapM_eq_mapM_toList]
        simp only [Sem.run_bind, Sem.run_map]
        refine (congrArg (fun r => Result.andThen (Result.andThen r _) _) h1).trans ?_
        simp only [Result.andThen_ok, Sem.run_pure]
      refine ⟨_, hm, ?_⟩
      subst hv
      cases l with
      | nil => rw [h2.nil_inv]; exact VRL.tuple VRL.nil
      | cons v0 r =>
        obtain ⟨v1, r', rfl, h3, h4⟩ := h2.cons_inv
        cases r with
        | nil =>
          rw [h4.nil_inv]
          simpa [oneOf] using h3
        | cons v2 r2 =>
          obtain ⟨v3, r3, rfl, h5, h6⟩ := h4.cons_inv
          have := VRL.tuple (VRL.cons h3 (VRL.cons h5 h6))
          simpa [oneOf] using this
    obtain ⟨v', h3, h4⟩ := hres
    rcases hx with rfl | rfl
    · exact ⟨hda, v', h3, T, v', rfl, rfl, rfl, h4, hgood⟩
    · exact ⟨hda, v', h3, T, v', rfl, rfl, rfl, h4, hgood⟩
  split at hc
  · rename_i f s1 he
    split at hc
    · rename_i l hl
      injection hc with hc; injection hc with e1 e2; subst e1; subst e2
      exact fin .normal f l (.inl rfl) he hl rfl
    · cases hc
  · rename_i f s1 he
    split at hc
    · rename_i l hl
      injection hc with hc; injection hc with e1 e2; subst e1; subst e2
      exact fin .ret f l (.inr rfl) he hl rfl
    · cases hc
  · cases hc

theorem exec_ok {P : Program} {bad : List Nat} (hm : P.follows .mixedOrders = true) (hfn : ∀ g fn, P.funcs[g]? = some fn → fnOk P bad g fn = true) : ∀ n, ExecOk P (exec P bad n) ∧ LoopOk P (exec P bad n) n := by
  intro n
  induction n with
  | zero => exact ⟨fun c base f S x f' s' a Q _ h => (by simp [exec] at h), fun c base f S x f' s' a Q _ h => (by simp [exec] at h)⟩
  | succ n ih =>
    obtain ⟨ihE, ihL⟩ := ih
    have hcall := call_ok hfn ihE
    have hloop : LoopOk P (exec P bad (n + 1)) (n + 1) := by
      intro c base f S x f' s' a Q hok h hs hf hq
      simp only [exec, step] at h
      rw [rounds_succ]
      split at h
      · rename_i f1 s1 h1
        refine ihE c base f S .normal f1 s1 a _ hok h1 hs hf (fun T a' hT hg hfa hda => ?_)
        subst hT
        exact ihL c base f1 T x f' s' a' Q hok h hg.sr hfa (fun U a2 e g hf2 hd2 => hq U a2 e (hg.trans g) hf2 (hd2.trans hda))
      · rename_i h1
        refine ihE c base f S x f' s' a _ hok h hs hf (fun T a' hT hg hfa hda => ?_)
        have hne : x ≠ .normal := fun e => h1 _ _ (by rw [← e]; exact h)
        have := hq T a' hT hg hfa hda
        cases x with
        | normal => exact absurd rfl hne
        | exit id => exact this
        | ret => exact this
    refine ⟨?_, hloop⟩
    intro c base f S x f' s' a Q hok h hs hf hq
    cases c with
    | loop c => 
      refine wp_loop_rounds (n + 1) (hloop c base f S x f' s' a Q (by simpa [codeOk] using hok) h hs hf hq)
    | skip =>
      simp only [exec, step] at h
      injection h with h; injection h with e1 e2; injection e2 with e2 e3; subst e1; subst e2; subst e3
      exact wp_skip (hq S a rfl (Good.refl hs) hf rfl)
    | label l =>
      simp only [exec, step] at h
      injection h with h; injection h with e1 e2; injection e2 with e2 e3; subst e1; subst e2; subst e3
      exact wp_label (hq S a rfl (Good.refl hs) hf rfl)
    | exit id =>
      simp only [exec, step] at h
      injection h with h; injection h with e1 e2; injection e2 with e2 e3; subst e1; subst e2; subst e3
      exact wp_exit (hq S a rfl (Good.refl hs) hf rfl)
    | ret =>
      simp only [exec, step] at h
      injection h with h; injection h with e1 e2; injection e2 with e2 e3; subst e1; subst e2; subst e3
      exact wp_ret (hq S a rfl (Good.refl hs) hf rfl)
    | region id ops d =>
      simp only [exec, step] at h
      split at h
      · rename_i f1 s1 h1
        injection h with h; injection h with e1 e2; injection e2 with e2 e3; subst e1; subst e2; subst e3
        exact region_ok hcall hm hok h1 hs hf hq
      · cases h
    | seq p q =>
      simp only [codeOk, Bool.and_eq_true] at hok
      simp only [exec, step] at h
      refine wp_seq ?_
      split at h
      · rename_i f1 s1 h1
        refine ihE p base f S .normal f1 s1 a _ hok.1 h1 hs hf (fun T a' hT hg hfa hda => ?_)
        subst hT
        exact ihE q base f1 T x f' s' a' Q hok.2 h hg.sr hfa (fun U a2 e g hf2 hd2 => hq U a2 e (hg.trans g) hf2 (hd2.trans hda))
      · rename_i h1
        refine ihE p base f S x f' s' a _ hok.1 h hs hf (fun T a' hT hg hfa hda => ?_)
        have hne : x ≠ .normal := fun e => h1 _ _ (by rw [← e]; exact h)
        have := hq T a' hT hg hfa hda
        cases x with
        | normal => exact absurd rfl hne
        | exit id => exact this
        | ret => exact this
    | cond y p q =>
      simp only [codeOk, Bool.and_eq_true] at hok
      simp only [exec, step] at h
      split at h
      · rename_i t hy
        have hv := evalA_ok hf hy
        generalize hcv : a.eval y = cv at hv
        cases hv
        split at h
        · exact wp_cond_true hcv (ihE p base f S x f' s' a Q hok.1 h hs hf hq)
        · exact wp_cond_false hcv (ihE q base f S x f' s' a Q hok.2 h hs hf hq)
      · cases h
    | block id p =>
      simp only [codeOk] at hok
      simp only [exec, step] at h
      refine wp_block ?_
      split at h
      · rename_i j f1 s1 h1
        split at h
        · rename_i hj
          have hj' : j = id := by simpa [Nat.beq_eq] using hj
          injection h with h; injection h with e1 e2; injection e2 with e2 e3; subst e1; subst e2; subst e3
          refine ihE p base f S (.exit j) f1 s1 a _ hok h1 hs hf (fun T a' hT hg hfa hda => ?_)
          simp only [exitOf, Exit.inBlock, hj', if_true]
          exact hq T a' hT hg hfa hda
        · rename_i hj
          have hj' : ¬ j = id := by simpa [Nat.beq_eq] using hj
          injection h with h; injection h with e1 e2; injection e2 with e2 e3; subst e1; subst e2; subst e3
          refine ihE p base f S (.exit j) f1 s1 a _ hok h1 hs hf (fun T a' hT hg hfa hda => ?_)
          simp only [exitOf, Exit.inBlock, hj', if_false]
          exact hq T a' hT hg hfa hda
      · rename_i h1
        refine ihE p base f S x f' s' a _ hok h hs hf (fun T a' hT hg hfa hda => ?_)
        have := hq T a' hT hg hfa hda
        cases x with
        | normal => exact this
        | exit j => exact absurd h (h1 _ _ _)
        | ret => exact this
    | scope p =>
      simp only [codeOk] at hok
      simp only [exec, step] at h
      refine wp_scope_straight ?_
      refine ihE p base f S x f' s' a _ hok h hs hf (fun T a' hT hg hfa hda => ?_)
      have := hq T a' hT hg hfa hda
      cases x <;> exact this
    | rangeFunc y ps p q => simp [exec, step] at h
    | goto l => simp [exec, step] at h
    | refuse w => simp [exec, step] at h

theorem progOk_spec {P : Program} {bad : List Nat} (h : progOk P bad = true) : P.follows .mixedOrders = true ∧ ∀ g fn, P.funcs[g]? = some fn → fnOk P bad g fn = true := by
  simp only [progOk, Bool.and_eq_true, List.all_eq_true] at h
  refine ⟨h.1, fun g fn hg => ?_⟩
  refine h.2 (fn, g) ?_
  rw [List.mem_zipIdx_iff_getElem?]
  simpa using hg

/-- WHAT THE MACHINE SAYS OF A CALL IS SO. -/
theorem acall_ok {P : Program} {bad : List Nat} (h : progOk P bad = true) (n : Nat) : CallOk P (acall P bad n) := by
  obtain ⟨hm, hfn⟩ := progOk_spec h
  exact call_ok hfn (exec_ok hm hfn n).1

end Go.Cl
