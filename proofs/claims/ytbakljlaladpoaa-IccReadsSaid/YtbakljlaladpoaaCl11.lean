/-
  The clean machine, part 11: statements, code, calls: what the machine says is so.
-/
import Derived.Test.YtbakljlaladpoaaCl17
namespace Go.Cl
open Go.RowKit

theorem runOps_ok {P : Program} {call : Call} {Pre : Nat → World → Prop} (hcall : CallOk P Pre call) (hst : Stays Pre) (all : List Oper) (base : Nat) : ∀ (l : List Oper) (f : AFr) (s : ASt) (S : St) (f' : AFr) (s' : ASt) (a : Act) (Q : Exit → Act → World → Prop),
    runOps P call all l f s = some (f', s') → Same s S.s → SR base S → Pre base S.w → FR S f a → (∀ T a', Same s' T.s → Good base S T → FR T f' a' → a'.defers = a.defers → Q .normal a' T.w) → wpList P all.toArray Q l a S.w := by
  intro l
  induction l with
  | nil =>
    intro f s S f' s' a Q hr hss hs hpre hf hq
    simp only [runOps] at hr
    injection hr with hr; injection hr with e1 e2; subst e1; subst e2
    exact hq S a hss (Good.refl hs) hf rfl
  | cons o l ih =>
    intro f s S f' s' a Q hr hss hs hpre hf hq
    simp only [runOps] at hr
    unfold wpList
    rw [← wanted_eq hf]
    split at hr
    · rename_i hw
      rw [if_pos hw]
      refine .inl ?_
      unfold Oper.wp
      split at hr
      · rename_i v s1 hop
        split at hr
        · rename_i f1 hp
          obtain ⟨t1, k1, k2, _⟩ := aop_fr hss (hss.wf hs.wf) hop
          obtain ⟨T, v', rfl, hv, hg, hrun⟩ := aop_ok hs hf _ k1
          have hf1 := (hf.mono hg.ext).put hv hp
          have next := ih f1 s1 T f' s' (a.put o.dst v') Q hr k2 hg.sr (hst _ _ _ hg.below hpre) hf1 (fun U a' e g hfa hd => hq U a' e (hg.trans g) hfa (hd.trans (put_defers _ _ _)))
          rcases hrun with hrun | ⟨hrun, rfl⟩
          · rw [hrun]; exact next
          · rw [hrun]; exact next
        · cases hr
      · rename_i g args hop
        split at hr
        · rename_i v s1 hc
          split at hr
          · rename_i f1 hp
            have k1 := aop_fr hss (hss.wf hs.wf) hop
            simp only [FrAR] at k1
            obtain ⟨args', hva, he⟩ := aop_ok hs hf _ k1
            rw [he]
            have fin : ∀ (T : St) (v' : Value), Same s1 T.s → VR T v v' → Good base S T → wpList P all.toArray Q l (a.put o.dst v') T.w := by
              intro T v' hT hv hg
              have hf1 := (hf.mono hg.ext).put hv hp
              exact ih f1 s1 T f' s' (a.put o.dst v') Q hr hT hg.sr (hst _ _ _ hg.below hpre) hf1 (fun U a' e g hfa hd => hq U a' e (hg.trans g) hfa (hd.trans (put_defers _ _ _)))
            rcases hcall g base S s args v s1 hss hs hpre hc args' hva with ⟨hrun, hcalls⟩ | ⟨T, v', hrun, hT, hv, hg⟩
            · rw [hrun]
              refine Calls.mono hcalls ?_
              rintro e w' ⟨T, v', hT, rfl, rfl, hv, hg⟩
              exact fin T v' hT hv hg
            · rw [hrun]
              exact fin T v' hT hv hg
          · cases hr
        · cases hr
      · cases hr
    · rename_i hw
      rw [if_neg hw]
      split at hr
      · rename_i f1 hp
        exact ih f1 s S f' s' (a.put o.dst undef) Q hr hss hs hpre (hf.put (VR.undef' S) hp) (fun U a' e g hfa hd => hq U a' e g hfa (hd.trans (put_defers _ _ _)))
      · cases hr

theorem region_ok {P : Program} {call : Call} (hc : CallFr call) {Pre : Nat → World → Prop} (hcall : CallOk P Pre call) (hst : Stays Pre) (hm : P.follows .mixedOrders = true) {id : Nat} {ops : Array Oper} {d : Bool} {base : Nat} {f : AFr} {s : ASt} {S : St} {f' : AFr} {s' : ASt} {a : Act}
    {Q : Exit → Act → World → Prop} (hr : (match d with
      | false => runOps P call ops.toList ops.toList f s
      | true => drawRun P call ops.toList f s) = some (f', s')) (hok : codeOk P (.region id ops d) = true) (hss : Same s S.s) (hs : SR base S) (hpre : Pre base S.w) (hf : FR S f a) (hq : ∀ T a', Same s' T.s → Good base S T → FR T f' a' → a'.defers = a.defers → Q .normal a' T.w) :
    (Code.region id ops d).wp P Q a S.w := by
  cases d with
  | false =>
    refine wp_region_list ?_
    have := runOps_ok hcall hst ops.toList base ops.toList f s S f' s' a Q hr hss hs hpre hf hq
    simpa using this
  | true => exact drawRun_ok hc hcall hst hm hok hss hs hpre hf hr hq

/-! Code. -/
def exitOf : AX → Exit
  | .normal => .normal
  | .exit id => .exit id
  | .ret => .ret

def ExecOk (P : Program) (Pre : Nat → World → Prop) (ex : Code → AFr → ASt → Out) : Prop :=
  ∀ (c : Code) (base : Nat) (f : AFr) (s : ASt) (S : St) (x : AX) (f' : AFr) (s' : ASt) (a : Act) (Q : Exit → Act → World → Prop), codeOk P c = true → ex c f s = some (x, f', s') → Same s S.s → SR base S → Pre base S.w → FR S f a →
    (∀ T a', Same s' T.s → Good base S T → FR T f' a' → a'.defers = a.defers → Q (exitOf x) a' T.w) → c.wp P Q a S.w
def LoopOk (P : Program) (Pre : Nat → World → Prop) (ex : Code → AFr → ASt → Out) (n : Nat) : Prop :=
  ∀ (c : Code) (base : Nat) (f : AFr) (s : ASt) (S : St) (x : AX) (f' : AFr) (s' : ASt) (a : Act) (Q : Exit → Act → World → Prop), codeOk P c = true → ex (.loop c) f s = some (x, f', s') → Same s S.s → SR base S → Pre base S.w → FR S f a →
    (∀ T a', Same s' T.s → Good base S T → FR T f' a' → a'.defers = a.defers → Q (exitOf x) a' T.w) → Code.rounds P c Q n a S.w

theorem setAll_get : ∀ (vs : List Value) (t : Tr Value) (i j : Nat), 0 ≤ 16000000 → (setAll t i vs).get j = if i ≤ j ∧ j < i + vs.length then some (vs.getD (j - i) undef) else t.get j := by
  intro vs
  induction vs with
  | nil => intro t i j _; rw [setAll, if_neg (by simp)]
  | cons v r ih =>
    intro t i j h
    rw [setAll, ih _ _ _ (by omega)]
    by_cases hj : i + 1 ≤ j ∧ j < i + 1 + r.length
    · rw [if_pos hj, if_pos (by simp; omega), show j - i = (j - (i + 1)) + 1 by omega, List.getD_cons_succ]
    · rw [if_neg hj]
      by_cases hij : i = j
      · subst hij
        rw [Tr.get_set_self _ _ _ _ (deep (by omega)), if_pos (by simp), Nat.sub_self, List.getD_cons_zero]
      · rw [Tr.get_set_ne _ _ _ _ _ hij, if_neg (by simp; omega)]

theorem FR.enter {S : St} {fn : Func} {args : List Value} {args' : Array Value} (hv : VRL S args args'.toList) (hsm : args.length + (fn.ntmps - args.length) ≤ 16000000) :
    FR S (enterA fn args) { tmps := args' ++ Array.replicate (fn.ntmps - args'.size) undef, defers := [] } := by
  have hl : args.length = args'.size := by have := hv.1; simpa using this
  refine ⟨by simp [enterA, hl], hsm, fun t ht => ?_⟩
  have hget : (enterA fn args).get t = if t < args.length then args.getD t undef else undef := by
    simp only [enterA, AFr.get, setAll_get args .nil 0 t (by omega), Nat.zero_le, true_and, Nat.zero_add, Nat.sub_zero]
    by_cases h : t < args.length
    · simp only [if_pos h]
    · simp only [if_neg h, Tr.get]
  rw [hget]
  by_cases h : t < args.length
  · rw [if_pos h]
    have e : (args' ++ Array.replicate (fn.ntmps - args'.size) undef).getD t undef = args'.toList.getD t undef := by
      have h2 : t < args'.size := by omega
      simp [Array.getElem?_append, h2]
    rw [e]
    exact hv.2 t h
  · rw [if_neg h]
    have e : (args' ++ Array.replicate (fn.ntmps - args'.size) undef).getD t undef = undef := by
      have h2 : ¬ t < args'.size := by omega
      simp [Array.getElem?_append, h2, Array.getElem?_replicate]
      by_cases h3 : t - args'.size < fn.ntmps - args'.size
      · rw [if_pos h3]; rfl
      · rw [if_neg h3]; rfl
    rw [e]
    exact VR.undef' S

theorem resultsA_ok {P : Program} {base : Nat} {S : St} (hs : SR base S) {f : AFr} {a : Act} (hf : FR S f a) : ∀ {rs : List ResultVar} {l : List Value}, resultsA P f S.s rs = some l →
    ∃ l', (rs.mapM fun (r : ResultVar) => (match r with | .tmp t => pure (a.tmps.getD t undef) | .cell x t => do loadVar t (← asAddr (a.tmps.getD x undef)) : Sem Value)).run P S.w = .ok l' S.w ∧ VRL S l l' := by
  intro rs
  induction rs with
  | nil => intro l h; simp only [resultsA] at h; obtain rfl := Option.some.inj h; exact ⟨[], by simp, VRL.nil⟩
  | cons r rs ih =>
    intro l h
    cases r with
    | tmp t =>
      simp only [resultsA] at h
      split at h
      · rename_i ht
        split at h
        · rename_i m hm
          obtain rfl := Option.some.inj h
          obtain ⟨l', h1, h2⟩ := ih hm
          refine ⟨a.tmps.getD t undef :: l', ?_, VRL.cons (hf.get t (by simpa [Nat.blt_eq] using ht)) h2⟩
          rw [List.mapM_cons]
          simp only [Sem.run_bind, Sem.run_pure, Result.andThen_ok, h1]
        · cases h
      · cases h
    | cell x t =>
      simp only [resultsA] at h
      split at h
      · rename_i hx
        split at h
        · rename_i v m hv hm
          obtain rfl := Option.some.inj h
          obtain ⟨l', h1, h2⟩ := ih hm
          have hp := hf.get x (by simpa [Nat.blt_eq] using hx)
          obtain ⟨v', h3, h4⟩ := loadA_ok hs hp hv
          unfold loadA at hv
          split at hv
          · rename_i i off c hpe
            rw [hpe] at hp
            obtain ⟨a1, e1, _⟩ := hp.ptr_inv
            rw [e1] at h3
            simp only [Instr.loadAt, Instr.sureAddr, pure_bind] at h3
            refine ⟨v' :: l', ?_, VRL.cons h4 h2⟩
            rw [List.mapM_cons]
            have ea : asAddr (a.tmps.getD x undef) = pure a1 := by rw [e1]; rfl
            simp only [ea, Sem.run_bind, Sem.run_pure, Result.andThen_ok, h3, h1]
          · cases hv
        · cases h
      · cases h

def LibOk (P : Program) (Pre : Nat → World → Prop) (lib : Prims) : Prop := ∀ g p, lib.at g = some p → PrimOk P Pre g p
theorem LibOk.nil (P : Program) (Pre : Nat → World → Prop) : LibOk P Pre [] := fun _ _ h => by cases h

theorem call_enters {P : Program} {Pre : Nat → World → Prop} {lib : Prims} {ex : Code → AFr → ASt → Out} (hfn : ∀ g fn, P.funcs[g]? = some fn → fnOk P lib g fn = true) (hex : ExecOk P Pre ex) {g : FuncId} (hbad : lib.at g = none)
    (base : Nat) (S : St) (s : ASt) (args : List Value) (v : Value) (s' : ASt) (hss : Same s S.s) (hs : SR base S) (hpre : Pre base S.w) (hc : callStep P lib ex g args s = some (v, s')) (args' : Array Value) (hva : VRL S args args'.toList) :
    (∀ w, (callFunc g args').run P w = .ok (.enter g args') w) ∧ Calls P g args' S.w fun e w' => ∃ T v', Same s' T.s ∧ T.w = w' ∧ e = .returned v' ∧ VR T v v' ∧ Good base S T := by
  unfold callStep at hc
  rw [hbad] at hc
  simp only at hc
  split at hc
  case h_2 => cases hc
  rename_i fn hg
  split at hc
  case h_2 => cases hc
  rename_i c hb hsm
  have hk := hfn g fn hg
  simp only [fnOk, Bool.and_eq_true, Bool.or_eq_true, hbad, hb, bne_iff_ne, ne_eq] at hk
  obtain ⟨hname, hcode⟩ := hk
  have hcode' : codeOk P c = true := by simpa using hcode
  refine ⟨fun w => ?_, ?_⟩
  · simp [callFunc, hg, hname, hb]
  have hfr : FR S (enterA fn args) { tmps := args' ++ Array.replicate (fn.ntmps - args'.size) undef, defers := [] } := FR.enter hva (by simpa [Nat.ble_eq] using hsm)
  have fin : ∀ (x : AX) (f : AFr) (l : List Value), (x = .normal ∨ x = .ret) → ex c (enterA fn args) s = some (x, f, s') → resultsA P f s' fn.results.toList = some l → v = oneOf l →
      Calls P g args' S.w fun e w' => ∃ T v', Same s' T.s ∧ T.w = w' ∧ e = .returned v' ∧ VR T v v' ∧ Good base S T := by
    intro x f l hx he hl hv
    refine calls_of_wp hg hb (hex c base _ s S x f s' _ _ hcode' he hss hs hpre hfr ?_)
    intro T a' hTs hgood hfa hda
    obtain ⟨l', h1, h2⟩ := resultsA_ok hgood.sr hfa (resultsA_fr hTs hl)
    have hlen := h2.1
    have hres : ∃ v', (results fn a'.tmps).run P T.w = .ok v' T.w ∧ VR T v v' := by
      have hm : (results fn a'.tmps).run P T.w = .ok (if h : l'.toArray.size = 1 then l'.toArray[0] else .tuple l'.toArray) T.w := by
        unfold results
        rw [Array.mapM_eq_mapM_toList]
        simp only [Sem.run_bind, Sem.run_map]
        refine (congrArg (fun r => Result.andThen (Result.andThen r _) _) h1).trans ?_
        simp only [Result.andThen_ok, Sem.run_pure]
      refine ⟨_, hm, ?_⟩
      subst hv
      cases l with
      | nil => rw [h2.nil_inv]; exact VRL.tuple VRL.nil
      | cons v0 r =>
        obtain ⟨v1, r', rfl, h3, h4⟩ := h2.cons_inv
        cases r with
        | nil =>
          rw [h4.nil_inv]
          simpa [oneOf] using h3
        | cons v2 r2 =>
          obtain ⟨v3, r3, rfl, h5, h6⟩ := h4.cons_inv
          have := VRL.tuple (VRL.cons h3 (VRL.cons h5 h6))
          simpa [oneOf] using this
    obtain ⟨v', h3, h4⟩ := hres
    rcases hx with rfl | rfl
    · exact ⟨hda, v', h3, T, v', hTs, rfl, rfl, h4, hgood⟩
    · exact ⟨hda, v', h3, T, v', hTs, rfl, rfl, h4, hgood⟩
  split at hc
  · rename_i f s1 he
    split at hc
    · rename_i l hl
      injection hc with hc; injection hc with e1 e2; subst e1; subst e2
      exact fin .normal f l (.inl rfl) he hl rfl
    · cases hc
  · rename_i f s1 he
    split at hc
    · rename_i l hl
      injection hc with hc; injection hc with e1 e2; subst e1; subst e2
      exact fin .ret f l (.inr rfl) he hl rfl
    · cases hc
  · cases hc

theorem call_ok {P : Program} {Pre : Nat → World → Prop} {lib : Prims} (hlib : LibOk P Pre lib) {ex : Code → AFr → ASt → Out} (hfn : ∀ g fn, P.funcs[g]? = some fn → fnOk P lib g fn = true) (hex : ExecOk P Pre ex) : CallOk P Pre (callStep P lib ex) := by
  intro g base S s args v s' hss hs hpre hc args' hva
  cases hg : lib.at g with
  | some p =>
    unfold callStep at hc
    rw [hg] at hc
    exact hlib g p hg base S s args v s' hss hs hpre hc args' hva
  | none => exact .inl (call_enters hfn hex hg base S s args v s' hss hs hpre hc args' hva)

theorem exec_ok {P : Program} {Pre : Nat → World → Prop} (hst : Stays Pre) {lib : Prims} (hlf : LibFr lib) (hlib : LibOk P Pre lib) (hm : P.follows .mixedOrders = true) (hfn : ∀ g fn, P.funcs[g]? = some fn → fnOk P lib g fn = true) : ∀ n, ExecOk P Pre (exec P lib n) ∧ LoopOk P Pre (exec P lib n) n := by
  intro n
  induction n with
  | zero => exact ⟨fun c base f s S x f' s' a Q _ h => (by simp [exec] at h), fun c base f s S x f' s' a Q _ h => (by simp [exec] at h)⟩
  | succ n ih =>
    obtain ⟨ihE, ihL⟩ := ih
    have hcall := call_ok hlib hfn ihE
    have hcfr : CallFr (callStep P lib (exec P lib n)) := callStep_fr hlf (exec_fr hlf n)
    have hloop : LoopOk P Pre (exec P lib (n + 1)) (n + 1) := by
      intro c base f s S x f' s' a Q hok h hss hs hpre hf hq
      simp only [exec, step] at h
      rw [rounds_succ]
      split at h
      · rename_i f1 s1 h1
        refine ihE c base f s S .normal f1 s1 a _ hok h1 hss hs hpre hf (fun T a' hT hg hfa hda => ?_)
        exact ihL c base f1 s1 T x f' s' a' Q hok h hT hg.sr (hst _ _ _ hg.below hpre) hfa (fun U a2 e g hf2 hd2 => hq U a2 e (hg.trans g) hf2 (hd2.trans hda))
      · rename_i h1
        refine ihE c base f s S x f' s' a _ hok h hss hs hpre hf (fun T a' hT hg hfa hda => ?_)
        have hne : x ≠ .normal := fun e => h1 _ _ (by rw [← e]; exact h)
        have := hq T a' hT hg hfa hda
        cases x with
        | normal => exact absurd rfl hne
        | exit id => exact this
        | ret => exact this
    refine ⟨?_, hloop⟩
    intro c base f s S x f' s' a Q hok h hss hs hpre hf hq
    cases c with
    | loop c => 
      refine wp_loop_rounds (n + 1) (hloop c base f s S x f' s' a Q (by simpa [codeOk] using hok) h hss hs hpre hf hq)
    | skip =>
      simp only [exec, step] at h
      injection h with h; injection h with e1 e2; injection e2 with e2 e3; subst e1; subst e2; subst e3
      exact wp_skip (hq S a hss (Good.refl hs) hf rfl)
    | label l =>
      simp only [exec, step] at h
      injection h with h; injection h with e1 e2; injection e2 with e2 e3; subst e1; subst e2; subst e3
      exact wp_label (hq S a hss (Good.refl hs) hf rfl)
    | exit id =>
      simp only [exec, step] at h
      injection h with h; injection h with e1 e2; injection e2 with e2 e3; subst e1; subst e2; subst e3
      exact wp_exit (hq S a hss (Good.refl hs) hf rfl)
    | ret =>
      simp only [exec, step] at h
      injection h with h; injection h with e1 e2; injection e2 with e2 e3; subst e1; subst e2; subst e3
      exact wp_ret (hq S a hss (Good.refl hs) hf rfl)
    | region id ops d =>
      simp only [exec, step] at h
      split at h
      · rename_i f1 s1 h1
        injection h with h; injection h with e1 e2; injection e2 with e2 e3; subst e1; subst e2; subst e3
        exact region_ok hcfr hcall hst hm h1 hok hss hs hpre hf hq
      · cases h
    | seq p q =>
      simp only [codeOk, Bool.and_eq_true] at hok
      simp only [exec, step] at h
      refine wp_seq ?_
      split at h
      · rename_i f1 s1 h1
        refine ihE p base f s S .normal f1 s1 a _ hok.1 h1 hss hs hpre hf (fun T a' hT hg hfa hda => ?_)
        exact ihE q base f1 s1 T x f' s' a' Q hok.2 h hT hg.sr (hst _ _ _ hg.below hpre) hfa (fun U a2 e g hf2 hd2 => hq U a2 e (hg.trans g) hf2 (hd2.trans hda))
      · rename_i h1
        refine ihE p base f s S x f' s' a _ hok.1 h hss hs hpre hf (fun T a' hT hg hfa hda => ?_)
        have hne : x ≠ .normal := fun e => h1 _ _ (by rw [← e]; exact h)
        have := hq T a' hT hg hfa hda
        cases x with
        | normal => exact absurd rfl hne
        | exit id => exact this
        | ret => exact this
    | cond y p q =>
      simp only [codeOk, Bool.and_eq_true] at hok
      simp only [exec, step] at h
      split at h
      · rename_i t hy
        have hv := evalA_ok hf hy
        generalize hcv : a.eval y = cv at hv
        cases hv
        split at h
        · exact wp_cond_true hcv (ihE p base f s S x f' s' a Q hok.1 h hss hs hpre hf hq)
        · exact wp_cond_false hcv (ihE q base f s S x f' s' a Q hok.2 h hss hs hpre hf hq)
      · cases h
    | block id p =>
      simp only [codeOk] at hok
      simp only [exec, step] at h
      refine wp_block ?_
      split at h
      · rename_i j f1 s1 h1
        split at h
        · rename_i hj
          have hj' : j = id := by simpa [Nat.beq_eq] using hj
          injection h with h; injection h with e1 e2; injection e2 with e2 e3; subst e1; subst e2; subst e3
          refine ihE p base f s S (.exit j) f1 s1 a _ hok h1 hss hs hpre hf (fun T a' hT hg hfa hda => ?_)
          simp only [exitOf, Exit.inBlock, hj', if_true]
          exact hq T a' hT hg hfa hda
        · rename_i hj
          have hj' : ¬ j = id := by simpa [Nat.beq_eq] using hj
          injection h with h; injection h with e1 e2; injection e2 with e2 e3; subst e1; subst e2; subst e3
          refine ihE p base f s S (.exit j) f1 s1 a _ hok h1 hss hs hpre hf (fun T a' hT hg hfa hda => ?_)
          simp only [exitOf, Exit.inBlock, hj', if_false]
          exact hq T a' hT hg hfa hda
      · rename_i h1
        refine ihE p base f s S x f' s' a _ hok h hss hs hpre hf (fun T a' hT hg hfa hda => ?_)
        have := hq T a' hT hg hfa hda
        cases x with
        | normal => exact this
        | exit j => exact absurd h (h1 _ _ _)
        | ret => exact this
    | scope p =>
      simp only [codeOk] at hok
      simp only [exec, step] at h
      refine wp_scope_straight ?_
      refine ihE p base f s S x f' s' a _ hok h hss hs hpre hf (fun T a' hT hg hfa hda => ?_)
      have := hq T a' hT hg hfa hda
      cases x <;> exact this
    | rangeFunc y ps p q => simp [exec, step] at h
    | goto l => simp [exec, step] at h
    | refuse w => simp [exec, step] at h

theorem progOk_spec {P : Program} {lib : Prims} (h : progOk P lib = true) : P.follows .mixedOrders = true ∧ ∀ g fn, P.funcs[g]? = some fn → fnOk P lib g fn = true := by
  simp only [progOk, Bool.and_eq_true, List.all_eq_true] at h
  refine ⟨h.1, fun g fn hg => ?_⟩
  refine h.2 (fn, g) ?_
  rw [List.mem_zipIdx_iff_getElem?]
  simpa using hg

/-- WHAT THE MACHINE SAYS OF A CALL IS SO. -/
theorem acall_ok {P : Program} {Pre : Nat → World → Prop} (hst : Stays Pre) {lib : Prims} (hlf : LibFr lib) (hlib : LibOk P Pre lib) (h : progOk P lib = true) (n : Nat) : CallOk P Pre (acall P lib n) := by
  obtain ⟨hm, hfn⟩ := progOk_spec h
  exact call_ok hlib hfn (exec_ok hst hlf hlib hm hfn n).1
theorem acall_enters {P : Program} {Pre : Nat → World → Prop} (hst : Stays Pre) {lib : Prims} (hlf : LibFr lib) (hlib : LibOk P Pre lib) (h : progOk P lib = true) (n : Nat) {g : FuncId} (hg : lib.at g = none)
    (base : Nat) (S : St) (s : ASt) (args : List Value) (v : Value) (s' : ASt) (hss : Same s S.s) (hs : SR base S) (hpre : Pre base S.w) (hc : acall P lib n g args s = some (v, s')) (args' : Array Value) (hva : VRL S args args'.toList) :
    Calls P g args' S.w fun e w' => ∃ T v', Same s' T.s ∧ T.w = w' ∧ e = .returned v' ∧ VR T v v' ∧ Good base S T := by
  obtain ⟨hm, hfn⟩ := progOk_spec h
  exact (call_enters hfn (exec_ok hst hlf hlib hm hfn n).1 hg base S s args v s' hss hs hpre hc args' hva).2

end Go.Cl
