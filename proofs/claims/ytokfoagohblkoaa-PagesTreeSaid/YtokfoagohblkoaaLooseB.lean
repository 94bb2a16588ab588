/-
  The clean machine, part 20: what a call and a piece of code come to, whatever the fuel beyond some. A reading of code as a sentence.
-/
import Derived.Test.YtokfoagohblkoaaMcB
namespace Go.Cl
theorem Adds.refl (s : ASt) : Adds s s (fun _ => none) := ⟨rfl, fun _ _ h => (by cases h), fun _ => rfl⟩
theorem aop_keeps {P : Program} {o : Oper} {f : AFr} {s : ASt} (hw : WF s) {v : Value} {t : ASt} (h : aop P o f s = some (.val v t)) : Keeps s t := by
  obtain ⟨_, _, _, k⟩ := aop_fr (Adds.refl s) hw h
  exact k
def Runs (P : Program) (lib : Prims) (g : FuncId) (args : List Value) (s : ASt) (Q : Value → ASt → Prop) : Prop :=
  WF s → ∃ v s', (∃ n, ∀ m, n ≤ m → acall P lib m g args s = some (v, s')) ∧ Keeps s s' ∧ Q v s'
def Comes (P : Program) (lib : Prims) (c : Code) (f : AFr) (s : ASt) (Q : AX → AFr → ASt → Prop) : Prop :=
  WF s → ∃ x f' s', (∃ n, ∀ m, n ≤ m → exec P lib m c f s = some (x, f', s')) ∧ Keeps s s' ∧ Q x f' s'
def ComesOps (P : Program) (lib : Prims) (all l : List Oper) (f : AFr) (s : ASt) (Q : AFr → ASt → Prop) : Prop :=
  WF s → ∃ f' s', (∃ n, ∀ m, n ≤ m → runOps P (acall P lib m) all l f s = some (f', s')) ∧ Keeps s s' ∧ Q f' s'
theorem Runs.mono {P : Program} {lib : Prims} {g : FuncId} {args : List Value} {s : ASt} {Q Q' : Value → ASt → Prop} (h : Runs P lib g args s Q) (k : ∀ v s', Q v s' → Q' v s') : Runs P lib g args s Q' := by
  intro hw
  obtain ⟨v, s', hn, hk, hq⟩ := h hw
  exact ⟨v, s', hn, hk, k _ _ hq⟩
theorem Runs.wf {P : Program} {lib : Prims} {g : FuncId} {args : List Value} {s : ASt} {Q : Value → ASt → Prop} (h : WF s → Runs P lib g args s Q) : Runs P lib g args s Q := fun hw => h hw hw
theorem Comes.mono {P : Program} {lib : Prims} {c : Code} {f : AFr} {s : ASt} {Q Q' : AX → AFr → ASt → Prop} (h : Comes P lib c f s Q) (k : ∀ x f' s', Q x f' s' → Q' x f' s') : Comes P lib c f s Q' := by
  intro hw
  obtain ⟨x, f', s', hn, hk, hq⟩ := h hw
  exact ⟨x, f', s', hn, hk, k _ _ _ hq⟩
def wput (f : AFr) (d : Option Tmp) (v : Value) (K : AFr → Prop) : Prop :=
  match putD f d v with
  | some f' => K f'
  | none => False
mutual
def wops (P : Program) (lib : Prims) (all : List Oper) : List Oper → AFr → ASt → (AFr → ASt → Prop) → Prop
  | [], f, s, Q => Q f s
  | o :: r, f, s, Q =>
    match wantedA all o f with
    | true =>
      match aop P o f s with
      | some (.val v s') => wput f o.dst v fun f' => wops P lib all r f' s' Q
      | some (.call g args) => Runs P lib g args s fun v s' => wput f o.dst v fun f' => wops P lib all r f' s' Q
      | none => False
    | false => wput f o.dst undef fun f' => wops P lib all r f' s Q
end
def wstep (P : Program) (lib : Prims) (all r : List Oper) (f : AFr) (s : ASt) (d : Option Tmp) (Q : AFr → ASt → Prop) : Option AR → Prop
  | some (.val v s') => wput f d v fun f' => wops P lib all r f' s' Q
  | some (.call g args) => Runs P lib g args s fun v s' => wput f d v fun f' => wops P lib all r f' s' Q
  | none => False
def wcall (P : Program) (lib : Prims) (all r : List Oper) (f : AFr) (d : Option Tmp) (Q : AFr → ASt → Prop) (v : Value) (s' : ASt) : Prop := wput f d v fun f' => wops P lib all r f' s' Q
def wwant (P : Program) (lib : Prims) (all : List Oper) (o : Oper) (r : List Oper) (f : AFr) (s : ASt) (Q : AFr → ASt → Prop) : Bool → Prop
  | true => wstep P lib all r f s o.dst Q (aop P o f s)
  | false => wput f o.dst undef fun f' => wops P lib all r f' s Q
theorem wops_nil (P : Program) (lib : Prims) (all : List Oper) (f : AFr) (s : ASt) (Q : AFr → ASt → Prop) : wops P lib all [] f s Q = Q f s := by simp only [wops]
theorem wops_cons (P : Program) (lib : Prims) (all : List Oper) (o : Oper) (r : List Oper) (f : AFr) (s : ASt) (Q : AFr → ASt → Prop) : wops P lib all (o :: r) f s Q = wwant P lib all o r f s Q (wantedA all o f) := by
  simp only [wops]
  cases wantedA all o f with
  | false => rfl
  | true =>
    simp only [wwant]
    cases aop P o f s with
    | none => rfl
    | some a => cases a <;> rfl
theorem wwant_true (P : Program) (lib : Prims) (all : List Oper) (o : Oper) (r : List Oper) (f : AFr) (s : ASt) (Q : AFr → ASt → Prop) : wwant P lib all o r f s Q true = wstep P lib all r f s o.dst Q (aop P o f s) := rfl
theorem wput_some (f : AFr) (t : Tmp) (v : Value) (K : AFr → Prop) : wput f (some t) v K = if t < f.n then K (f.put t v) else False := by
  unfold wput putD
  by_cases h : t < f.n
  · have hb : Nat.blt t f.n = true := by simpa [Nat.blt_eq] using h
    simp only [hb, if_true, if_pos h]
  · have hb : Nat.blt t f.n = false := by rw [← Bool.not_eq_true, Nat.blt_eq]; exact h
    simp [hb, if_neg h]
theorem wput_none (f : AFr) (v : Value) (K : AFr → Prop) : wput f none v K = K f := rfl
theorem wwant_false_some (P : Program) (lib : Prims) (all : List Oper) (op : Op) (ty : TypeId) (ps : String) (af : Array Edge) (gd : Option (Nat × Bool)) (r : List Oper) (f : AFr) (s : ASt) (Q : AFr → ASt → Prop) (t : Tmp) : wwant P lib all ⟨some t, op, ty, ps, af, gd⟩ r f s Q false = if t < f.n then wops P lib all r (f.put t undef) s Q else False := by
  unfold wwant; simp only; rw [wput_some]
theorem wwant_false_none (P : Program) (lib : Prims) (all : List Oper) (op : Op) (ty : TypeId) (ps : String) (af : Array Edge) (gd : Option (Nat × Bool)) (r : List Oper) (f : AFr) (s : ASt) (Q : AFr → ASt → Prop) : wwant P lib all ⟨none, op, ty, ps, af, gd⟩ r f s Q false = wops P lib all r f s Q := rfl
theorem wstep_val (P : Program) (lib : Prims) (all r : List Oper) (f : AFr) (s : ASt) (t : Tmp) (Q : AFr → ASt → Prop) (v : Value) (s' : ASt) : wstep P lib all r f s (some t) Q (some (.val v s')) = if t < f.n then wops P lib all r (f.put t v) s' Q else False := by
  simp only [wstep, wput_some]
theorem wstep_val_none (P : Program) (lib : Prims) (all r : List Oper) (f : AFr) (s : ASt) (Q : AFr → ASt → Prop) (v : Value) (s' : ASt) : wstep P lib all r f s none Q (some (.val v s')) = wops P lib all r f s' Q := rfl
theorem wstep_call (P : Program) (lib : Prims) (all r : List Oper) (f : AFr) (s : ASt) (d : Option Tmp) (Q : AFr → ASt → Prop) (g : FuncId) (args : List Value) : wstep P lib all r f s d Q (some (.call g args)) = Runs P lib g args s (wcall P lib all r f d Q) := rfl
theorem wcall_some (P : Program) (lib : Prims) (all r : List Oper) (f : AFr) (t : Tmp) (Q : AFr → ASt → Prop) (v : Value) (s' : ASt) : wcall P lib all r f (some t) Q v s' = if t < f.n then wops P lib all r (f.put t v) s' Q else False := by
  simp only [wcall, wput_some]
theorem wcall_none (P : Program) (lib : Prims) (all r : List Oper) (f : AFr) (Q : AFr → ASt → Prop) (v : Value) (s' : ASt) : wcall P lib all r f none Q v s' = wops P lib all r f s' Q := rfl
theorem wcall_reframe {P : Program} {lib : Prims} {all r : List Oper} {f : AFr} {d : Option Tmp} {Q : AFr → ASt → Prop} {v : Value} {s' : ASt} (F : AFr → Prop) (h : F f) (k : ∀ f, F f → wcall P lib all r f d Q v s') : wcall P lib all r f d Q v s' := k f h
theorem wops_ok {P : Program} {lib : Prims} (all : List Oper) : ∀ (l : List Oper) (f : AFr) (s : ASt) (Q : AFr → ASt → Prop), wops P lib all l f s Q → ComesOps P lib all l f s Q := by
  intro l
  induction l with
  | nil => intro f s Q h hwf; rw [wops_nil] at h; exact ⟨f, s, ⟨0, fun m _ => rfl⟩, Keeps.refl hwf, h⟩
  | cons o r ih =>
    intro f s Q h hwf
    rw [wops_cons] at h
    have hput : ∀ (v : Value) (s' : ASt), (wput f o.dst v fun f' => wops P lib all r f' s' Q) → ∃ f1, putD f o.dst v = some f1 ∧ ComesOps P lib all r f1 s' Q := by
      intro v s' h
      unfold wput at h
      split at h
      · exact ⟨_, ‹_›, ih _ _ _ h⟩
      · exact h.elim
    cases hw : wantedA all o f with
    | false =>
      rw [hw] at h
      obtain ⟨f1, hp, hc⟩ := hput _ _ h
      obtain ⟨f', s', ⟨n, hn⟩, hk, hq⟩ := hc hwf
      refine ⟨f', s', ⟨n, fun m hm => ?_⟩, hk, hq⟩
      simp only [runOps, hw, hp]
      simpa using hn m hm
    | true =>
      rw [hw] at h
      simp only [wwant] at h
      unfold wstep at h
      split at h
      · rename_i v s1 hop
        have hk1 := aop_keeps hwf hop
        obtain ⟨f1, hp, hc⟩ := hput _ _ h
        obtain ⟨f', s', ⟨n, hn⟩, hk, hq⟩ := hc hk1.wf
        refine ⟨f', s', ⟨n, fun m hm => ?_⟩, hk1.trans hk, hq⟩
        simp only [runOps, hw, hop, hp]
        simpa using hn m hm
      · rename_i g args hop
        obtain ⟨v, s1, ⟨n1, h1⟩, hk1, h⟩ := h hwf
        obtain ⟨f1, hp, hc⟩ := hput _ _ h
        obtain ⟨f', s', ⟨n, hn⟩, hk, hq⟩ := hc hk1.wf
        refine ⟨f', s', ⟨n + n1, fun m hm => ?_⟩, hk1.trans hk, hq⟩
        simp only [runOps, hw, hop, h1 m (by omega), hp]
        simpa using hn m (by omega)
      · exact h.elim
def allQuiet (P : Program) (l : List Oper) : Bool := l.all (quietOp P)
def wquiet (P : Program) (all : List Oper) : List Oper → AFr → ASt → (AFr → Prop) → Prop
  | [], f, _, Q => Q f
  | o :: r, f, s, Q =>
    match wantedA all o f with
    | true =>
      match aop P o f s with
      | some (.val v _) => valEq v v = true ∧ wput f o.dst v fun f' => wquiet P all r f' s Q
      | _ => False
    | false => wput f o.dst undef fun f' => wquiet P all r f' s Q
def wlook (P : Program) (all r : List Oper) (f : AFr) (s : ASt) (d : Option Tmp) (Q : AFr → Prop) : Option AR → Prop
  | some (.val v _) => valEq v v = true ∧ wput f d v fun f' => wquiet P all r f' s Q
  | _ => False
def wasks (P : Program) (all : List Oper) (o : Oper) (r : List Oper) (f : AFr) (s : ASt) (Q : AFr → Prop) : Bool → Prop
  | true => wlook P all r f s o.dst Q (aop P o f s)
  | false => wput f o.dst undef fun f' => wquiet P all r f' s Q
theorem wquiet_nil (P : Program) (all : List Oper) (f : AFr) (s : ASt) (Q : AFr → Prop) : wquiet P all [] f s Q = Q f := rfl
theorem wquiet_cons (P : Program) (all : List Oper) (o : Oper) (r : List Oper) (f : AFr) (s : ASt) (Q : AFr → Prop) : wquiet P all (o :: r) f s Q = wasks P all o r f s Q (wantedA all o f) := by
  simp only [wquiet]
  cases wantedA all o f with
  | false => rfl
  | true =>
    simp only [wasks]
    cases aop P o f s with
    | none => rfl
    | some a => cases a <;> rfl
theorem wasks_true (P : Program) (all : List Oper) (o : Oper) (r : List Oper) (f : AFr) (s : ASt) (Q : AFr → Prop) : wasks P all o r f s Q true = wlook P all r f s o.dst Q (aop P o f s) := rfl
theorem wasks_false_some (P : Program) (all : List Oper) (op : Op) (ty : TypeId) (ps : String) (af : Array Edge) (gd : Option (Nat × Bool)) (r : List Oper) (f : AFr) (s : ASt) (Q : AFr → Prop) (t : Tmp) : wasks P all ⟨some t, op, ty, ps, af, gd⟩ r f s Q false = if t < f.n then wquiet P all r (f.put t undef) s Q else False := by
  unfold wasks; simp only; rw [wput_some]
theorem wlook_val (P : Program) (all r : List Oper) (f : AFr) (s : ASt) (t : Tmp) (Q : AFr → Prop) (v : Value) (s' : ASt) : wlook P all r f s (some t) Q (some (.val v s')) = if valEq v v = true ∧ t < f.n then wquiet P all r (f.put t v) s Q else False := by
  simp only [wlook, wput_some]
  by_cases h1 : valEq v v = true <;> by_cases h2 : t < f.n <;> simp [h1, h2]
theorem allQuiet_none {P : Program} : ∀ {l : List Oper}, allQuiet P l = true → (∀ o ∈ l, quietOp P o = true) ∧ allocs P l = 0 := by
  intro l
  induction l with
  | nil => intro _; exact ⟨fun o h => (by cases h), rfl⟩
  | cons o r ih =>
    intro h
    simp only [allQuiet, List.all_cons, Bool.and_eq_true] at h
    obtain ⟨h1, h2⟩ := ih (by simpa [allQuiet] using h.2)
    have hna : allocOp P o = false := by
      obtain ⟨dst, op, type, pos, after, guard⟩ := o
      cases op <;> simp_all [quietOp, allocOp]
      case convert a b x =>
        simp only [textConv]
        split
        · rename_i _ e hb; simp_all
        · rfl
    exact ⟨fun p hp => (List.mem_cons.mp hp).elim (fun e => e ▸ h.1) (fun hp => h1 p hp), by simp [allocs, hna, h2]⟩
theorem quiet_not_alloc {P : Program} {o : Oper} (hq : quietOp P o = true) : allocOp P o = false := by
  have := (allQuiet_none (P := P) (l := [o]) (by simp [allQuiet, hq])).2
  simp only [allocs] at this
  cases h : allocOp P o with
  | false => rfl
  | true => rw [h] at this; simp at this
theorem quiet_not_effect {P : Program} {o : Oper} (hq : quietOp P o = true) : effectOp P o = false := by simp [effectOp, hq]
theorem drawOps_quiet {P : Program} {all : List Oper} {s : ASt} (msA : List Nat) {Q : AFr → Prop} : ∀ (l : List Oper) (ms : List Nat) (i id : Nat) (f : AFr), (∀ o ∈ l, quietOp P o = true) → ms.length = l.length → wquiet P all l f s Q →
    ∃ es f', (∀ call, drawOps P call all ms l i id f s [] = some es) ∧ (∀ k, madeOf es k = []) ∧ stagesOf P l es s = [s] ∧ framesOf l es f = f' ∧ checkAll P all msA [] [s] ms l es i f = true ∧ Q f' := by
  intro l
  induction l with
  | nil =>
    intro ms i id f _ hl hw
    rw [wquiet_nil] at hw
    cases ms with
    | cons m r => simp at hl
    | nil => exact ⟨[], f, fun _ => rfl, fun _ => rfl, rfl, rfl, rfl, hw⟩
  | cons o r ih =>
    intro ms i id f hq hl hw
    cases ms with
    | nil => simp at hl
    | cons m ms =>
    have hqo := hq o (List.mem_cons_self ..)
    have hna := quiet_not_alloc hqo
    have hne := quiet_not_effect hqo
    have hqr : ∀ p ∈ r, quietOp P p = true := fun p hp => hq p (List.mem_cons_of_mem _ hp)
    have hlr : ms.length = r.length := by simpa using hl
    rw [wquiet_cons] at hw
    have hput : ∀ (v : Value), (wput f o.dst v fun f' => wquiet P all r f' s Q) → ∃ f1, putD f o.dst v = some f1 ∧ wquiet P all r f1 s Q := by
      intro v h
      unfold wput at h
      split at h
      · exact ⟨_, ‹_›, h⟩
      · exact h.elim
    cases hwa : wantedA all o f with
    | false =>
      rw [hwa] at hw
      obtain ⟨f1, hp, hw⟩ := hput _ hw
      obtain ⟨es, f', h1, h2, h3, h4, h5, h6⟩ := ih ms (i + 1) id f1 hqr hlr hw
      refine ⟨.skip :: es, f', fun call => ?_, fun k => ?_, ?_, ?_, ?_, h6⟩
      · simp only [drawOps, drawOp, hwa, Ev.val, hp, hna]
        rw [if_neg (by simp), h1 call]
      · simp only [madeOf, h2]
      · simp only [stagesOf, hne, h3]; simp
      · simp only [framesOf, Ev.val, hp, h4]
      · simp only [checkAll, Ev.val, hp, h5]; rfl
    | true =>
      rw [hwa] at hw
      simp only [wasks] at hw
      unfold wlook at hw
      split at hw
      case h_2 => exact hw.elim
      rename_i v s1 hop
      obtain ⟨hv, hw⟩ := hw
      obtain ⟨f1, hp, hw⟩ := hput _ hw
      obtain ⟨es, f', h1, h2, h3, h4, h5, h6⟩ := ih ms (i + 1) id f1 hqr hlr hw
      refine ⟨.quiet v :: es, f', fun call => ?_, fun k => ?_, ?_, ?_, ?_, h6⟩
      · simp only [drawOps, drawOp, hwa, hqo, Cl.fill, hop, Ev.val, hp, hna]
        rw [if_neg (by simp), h1 call]
      · simp only [madeOf, h2]
      · simp only [stagesOf, hne, h3]; simp
      · simp only [framesOf, Ev.val, hp, h4]
      · simp only [checkAll, Ev.val, hp, h5, Bool.and_true]
        have hsame : ∀ (L : List ASt), (∀ x ∈ L, x = s) → sameAt P m [] o f v L = true := by
          intro L
          induction L with
          | nil => intro _; rfl
          | cons x L ihL =>
            intro hx
            obtain rfl := hx x (List.mem_cons_self ..)
            simp only [sameAt, Cl.fill, hop, hv, Bool.true_and]
            exact ihL (fun y hy => hx y (List.mem_cons_of_mem _ hy))
        exact hsame _ (fun x hx => by simpa using List.mem_of_mem_take (List.mem_of_mem_drop hx))
theorem drawRun_quiet {P : Program} {ops : List Oper} (hq : allQuiet P ops = true) {f : AFr} {s : ASt} {Q : AFr → Prop} (h : wquiet P ops ops f s Q) : ∃ f', (∀ call, drawRun P call ops f s = some (f', s)) ∧ Q f' := by
  obtain ⟨hqs, hal⟩ := allQuiet_none hq
  have hms : (masks ops []).length = ops.length := by
    obtain ⟨r, h1, h2⟩ := masks_pre ops []
    rw [h1]; simpa using h2
  obtain ⟨es, f', h1, h2, h3, h4, h5, h6⟩ := drawOps_quiet (masks ops []) ops (masks ops []) 0 s.next f hqs hms h
  refine ⟨f', fun call => ?_, h6⟩
  have hs : (⟨s.heap, s.next + allocs P ops⟩ : ASt) = s := by rw [hal]; rfl
  unfold drawRun
  rw [hs, h1 call]
  simp only [h2, h3, h5, h4, Cl.fill, List.getLastD]
  rfl
def Drawn (P : Program) (lib : Prims) (ops : List Oper) (f : AFr) (s : ASt) (Q : AFr → ASt → Prop) : Prop :=
  WF s → ∃ f' s', (∃ n, ∀ m, n ≤ m → drawRun P (acall P lib m) ops f s = some (f', s')) ∧ Keeps s s' ∧ Q f' s'
def wdraw (P : Program) (lib : Prims) (ops : List Oper) (f : AFr) (s : ASt) (Q : AFr → ASt → Prop) : Bool → Prop
  | true => wquiet P ops ops f s (fun f' => Q f' s)
  | false => Drawn P lib ops f s Q
def inBlk (id : Nat) : AX → AX
  | .exit j => if j = id then .normal else .exit j
  | x => x
def wcode (P : Program) (lib : Prims) : Code → AFr → ASt → (AX → AFr → ASt → Prop) → Prop
  | .skip, f, s, Q => Q .normal f s
  | .label _, f, s, Q => Q .normal f s
  | .region _ ops d, f, s, Q =>
    match d with
    | false => wops P lib ops.toList ops.toList f s (Q .normal)
    | true => wdraw P lib ops.toList f s (Q .normal) (allQuiet P ops.toList)
  | .seq a b, f, s, Q => wcode P lib a f s fun x f' s' =>
    match x with
    | .normal => wcode P lib b f' s' Q
    | x => Q x f' s'
  | .cond x a b, f, s, Q =>
    match evalA f x with
    | some (.bool t) =>
      match t with
      | true => wcode P lib a f s Q
      | false => wcode P lib b f s Q
    | _ => False
  | .block id a, f, s, Q => wcode P lib a f s fun x f' s' => Q (inBlk id x) f' s'
  | .loop a, f, s, Q => Comes P lib (.loop a) f s Q
  | .exit id, f, s, Q => Q (.exit id) f s
  | .scope a, f, s, Q => wcode P lib a f s Q
  | .ret, f, s, Q => Q .ret f s
  | _, _, _, _ => False
def wthen (P : Program) (lib : Prims) (b : Code) (Q : AX → AFr → ASt → Prop) (x : AX) (f' : AFr) (s' : ASt) : Prop :=
  match x with
  | .normal => wcode P lib b f' s' Q
  | x => Q x f' s'
def wblk (id : Nat) (Q : AX → AFr → ASt → Prop) (x : AX) (f' : AFr) (s' : ASt) : Prop := Q (inBlk id x) f' s'
def wif (P : Program) (lib : Prims) (a b : Code) (f : AFr) (s : ASt) (Q : AX → AFr → ASt → Prop) : Bool → Prop
  | true => wcode P lib a f s Q
  | false => wcode P lib b f s Q
def wcond (P : Program) (lib : Prims) (a b : Code) (f : AFr) (s : ASt) (Q : AX → AFr → ASt → Prop) : Option Value → Prop
  | some (.bool t) => wif P lib a b f s Q t
  | _ => False
section
variable (P : Program) (lib : Prims) (f : AFr) (s : ASt) (Q : AX → AFr → ASt → Prop)
theorem wcode_skip : wcode P lib .skip f s Q = Q .normal f s := rfl
theorem wcode_region (id : Nat) (ops : Array Oper) : wcode P lib (.region id ops false) f s Q = wops P lib ops.toList ops.toList f s (Q .normal) := rfl
theorem wcode_draw (id : Nat) (ops : Array Oper) : wcode P lib (.region id ops true) f s Q = wdraw P lib ops.toList f s (Q .normal) (allQuiet P ops.toList) := rfl
theorem wdraw_true (ops : List Oper) (R : AFr → ASt → Prop) : wdraw P lib ops f s R true = wquiet P ops ops f s (fun f' => R f' s) := rfl
theorem wcode_seq (a b : Code) : wcode P lib (.seq a b) f s Q = wcode P lib a f s (wthen P lib b Q) := rfl
theorem wthen_normal (b : Code) : wthen P lib b Q .normal f s = wcode P lib b f s Q := rfl
theorem wthen_ret (b : Code) : wthen P lib b Q .ret f s = Q .ret f s := rfl
theorem wthen_exit (b : Code) (id : Nat) : wthen P lib b Q (.exit id) f s = Q (.exit id) f s := rfl
theorem wcode_cond (x : Operand) (a b : Code) : wcode P lib (.cond x a b) f s Q = wcond P lib a b f s Q (evalA f x) := by
  simp only [wcode]
  cases evalA f x with
  | none => rfl
  | some v => cases v <;> first | rfl | (rename_i t; cases t <;> rfl)
theorem wcond_bool (a b : Code) (t : Bool) : wcond P lib a b f s Q (some (.bool t)) = wif P lib a b f s Q t := rfl
theorem wif_true (a b : Code) : wif P lib a b f s Q true = wcode P lib a f s Q := rfl
theorem wif_false (a b : Code) : wif P lib a b f s Q false = wcode P lib b f s Q := rfl
theorem wcode_block (id : Nat) (a : Code) : wcode P lib (.block id a) f s Q = wcode P lib a f s (wblk id Q) := rfl
theorem wblk_normal (id : Nat) : wblk id Q .normal f s = Q .normal f s := rfl
theorem wblk_ret (id : Nat) : wblk id Q .ret f s = Q .ret f s := rfl
theorem wblk_exit (id j : Nat) : wblk id Q (.exit j) f s = if j = id then Q .normal f s else Q (.exit j) f s := by
  simp only [wblk, inBlk]; split <;> rfl
theorem wcode_loop (a : Code) : wcode P lib (.loop a) f s Q = Comes P lib (.loop a) f s Q := rfl
theorem wcode_exit (id : Nat) : wcode P lib (.exit id) f s Q = Q (.exit id) f s := rfl
theorem wcode_scope (a : Code) : wcode P lib (.scope a) f s Q = wcode P lib a f s Q := rfl
theorem wcode_ret : wcode P lib .ret f s Q = Q .ret f s := rfl
end
theorem wif_cases {P : Program} {lib : Prims} {a b : Code} {f : AFr} {s : ASt} {Q : AX → AFr → ASt → Prop} {t : Bool} (h1 : t = true → wcode P lib a f s Q) (h2 : t = false → wcode P lib b f s Q) : wif P lib a b f s Q t := by
  cases t
  · exact h2 rfl
  · exact h1 rfl
theorem wcode_ok {P : Program} {lib : Prims} : ∀ (c : Code) (f : AFr) (s : ASt) (Q : AX → AFr → ASt → Prop), wcode P lib c f s Q → Comes P lib c f s Q := by
  intro c
  induction c with
  | skip => intro f s Q h hwf; exact ⟨.normal, f, s, ⟨1, fun m hm => by obtain ⟨k, rfl⟩ : ∃ k, m = k + 1 := ⟨m - 1, by omega⟩; rfl⟩, Keeps.refl hwf, h⟩
  | label l => intro f s Q h hwf; exact ⟨.normal, f, s, ⟨1, fun m hm => by obtain ⟨k, rfl⟩ : ∃ k, m = k + 1 := ⟨m - 1, by omega⟩; rfl⟩, Keeps.refl hwf, h⟩
  | exit id => intro f s Q h hwf; exact ⟨.exit id, f, s, ⟨1, fun m hm => by obtain ⟨k, rfl⟩ : ∃ k, m = k + 1 := ⟨m - 1, by omega⟩; rfl⟩, Keeps.refl hwf, h⟩
  | ret => intro f s Q h hwf; exact ⟨.ret, f, s, ⟨1, fun m hm => by obtain ⟨k, rfl⟩ : ∃ k, m = k + 1 := ⟨m - 1, by omega⟩; rfl⟩, Keeps.refl hwf, h⟩
  | loop a _ => intro f s Q h; exact h
  | rangeFunc => intro f s Q h; exact h.elim
  | goto => intro f s Q h; exact h.elim
  | refuse => intro f s Q h; exact h.elim
  | region id ops d =>
    intro f s Q h hwf
    have fin : ∀ f' s', (∃ n, ∀ m, n ≤ m → (match d with
        | false => runOps P (acall P lib m) ops.toList ops.toList f s
        | true => drawRun P (acall P lib m) ops.toList f s) = some (f', s')) → Keeps s s' → Q .normal f' s' → ∃ x f' s', (∃ n, ∀ m, n ≤ m → exec P lib m (.region id ops d) f s = some (x, f', s')) ∧ Keeps s s' ∧ Q x f' s' := by
      rintro f' s' ⟨n, hn⟩ hk hq
      refine ⟨.normal, f', s', ⟨n + 1, fun m hm => ?_⟩, hk, hq⟩
      obtain ⟨k, rfl⟩ : ∃ k, m = k + 1 := ⟨m - 1, by omega⟩
      have := hn k (by omega)
      simp only [exec, step]
      have e : acall P lib k = callStep P lib (exec P lib k) := rfl
      rw [e] at this
      cases d <;> (simp only at this; simp only [this])
    cases d with
    | false =>
      obtain ⟨f', s', hn, hk, hq⟩ := wops_ok _ _ _ _ _ h hwf
      exact fin f' s' hn hk hq
    | true =>
      simp only [wcode] at h
      cases hq : allQuiet P ops.toList with
      | true =>
        rw [hq] at h
        obtain ⟨f', h1, h2⟩ := drawRun_quiet hq h
        exact fin f' s ⟨0, fun m _ => h1 _⟩ (Keeps.refl hwf) h2
      | false =>
        rw [hq] at h
        obtain ⟨f', s', h1, hk, h2⟩ := h hwf
        exact fin f' s' h1 hk h2
  | seq a b iha ihb =>
    intro f s Q h hwf
    obtain ⟨x, f1, s1, ⟨n1, h1⟩, hk1, h⟩ := iha f s _ h hwf
    cases x with
    | normal =>
      obtain ⟨x, f2, s2, ⟨n2, h2⟩, hk2, h⟩ := ihb f1 s1 _ h hk1.wf
      refine ⟨x, f2, s2, ⟨n1 + n2 + 1, fun m hm => ?_⟩, hk1.trans hk2, h⟩
      obtain ⟨k, rfl⟩ : ∃ k, m = k + 1 := ⟨m - 1, by omega⟩
      simp only [exec, step, h1 k (by omega), h2 k (by omega)]
    | exit id =>
      refine ⟨_, f1, s1, ⟨n1 + 1, fun m hm => ?_⟩, hk1, h⟩
      obtain ⟨k, rfl⟩ : ∃ k, m = k + 1 := ⟨m - 1, by omega⟩
      simp only [exec, step, h1 k (by omega)]
    | ret =>
      refine ⟨_, f1, s1, ⟨n1 + 1, fun m hm => ?_⟩, hk1, h⟩
      obtain ⟨k, rfl⟩ : ∃ k, m = k + 1 := ⟨m - 1, by omega⟩
      simp only [exec, step, h1 k (by omega)]
  | cond y a b iha ihb =>
    intro f s Q h hwf
    rw [wcode_cond] at h
    unfold wcond at h
    split at h
    · rename_i t ht
      cases t with
      | true =>
        obtain ⟨x, f1, s1, ⟨n1, h1⟩, hk1, h⟩ := iha f s _ h hwf
        refine ⟨_, f1, s1, ⟨n1 + 1, fun m hm => ?_⟩, hk1, h⟩
        obtain ⟨k, rfl⟩ : ∃ k, m = k + 1 := ⟨m - 1, by omega⟩
        simp only [exec, step, ht, h1 k (by omega)]
      | false =>
        obtain ⟨x, f1, s1, ⟨n1, h1⟩, hk1, h⟩ := ihb f s _ h hwf
        refine ⟨_, f1, s1, ⟨n1 + 1, fun m hm => ?_⟩, hk1, h⟩
        obtain ⟨k, rfl⟩ : ∃ k, m = k + 1 := ⟨m - 1, by omega⟩
        simp only [exec, step, ht, h1 k (by omega)]
    · exact h.elim
  | block id a iha =>
    intro f s Q h hwf
    obtain ⟨x, f1, s1, ⟨n1, h1⟩, hk1, h⟩ := iha f s _ h hwf
    refine ⟨_, f1, s1, ⟨n1 + 1, fun m hm => ?_⟩, hk1, h⟩
    obtain ⟨k, rfl⟩ : ∃ k, m = k + 1 := ⟨m - 1, by omega⟩
    simp only [exec, step, h1 k (by omega)]
    cases x with
    | normal => rfl
    | ret => rfl
    | exit j =>
      simp only [inBlk]
      by_cases hj : j = id
      · rw [if_pos hj, if_pos (by simpa [Nat.beq_eq] using hj)]
      · rw [if_neg hj, if_neg (by simpa [Nat.beq_eq] using hj)]
  | scope a iha =>
    intro f s Q h hwf
    obtain ⟨x, f1, s1, ⟨n1, h1⟩, hk1, h⟩ := iha f s _ h hwf
    refine ⟨_, f1, s1, ⟨n1 + 1, fun m hm => ?_⟩, hk1, h⟩
    obtain ⟨k, rfl⟩ : ∃ k, m = k + 1 := ⟨m - 1, by omega⟩
    simp only [exec, step, h1 k (by omega)]
def wround (Inv : Nat → AFr → ASt → Prop) (k : Nat) (Q : AX → AFr → ASt → Prop) : AX → AFr → ASt → Prop
  | .normal, f, s => ∃ j, j < k ∧ Inv j f s
  | x, f, s => Q x f s
theorem wround_next {Inv : Nat → AFr → ASt → Prop} {k : Nat} {Q : AX → AFr → ASt → Prop} {f : AFr} {s : ASt} (j : Nat) (hj : j < k) (h : Inv j f s) : wround Inv k Q .normal f s := ⟨j, hj, h⟩
theorem wround_ret (Inv : Nat → AFr → ASt → Prop) (k : Nat) (Q : AX → AFr → ASt → Prop) (f : AFr) (s : ASt) : wround Inv k Q .ret f s = Q .ret f s := rfl
theorem wround_exit (Inv : Nat → AFr → ASt → Prop) (k : Nat) (Q : AX → AFr → ASt → Prop) (f : AFr) (s : ASt) (id : Nat) : wround Inv k Q (.exit id) f s = Q (.exit id) f s := rfl
theorem Comes.loop {P : Program} {lib : Prims} {a : Code} {Q : AX → AFr → ASt → Prop} (Inv : Nat → AFr → ASt → Prop) (hr : ∀ k f s, Inv k f s → wcode P lib a f s (wround Inv k Q)) : ∀ k f s, Inv k f s → Comes P lib (.loop a) f s Q := by
  intro k
  induction k using Nat.strongRecOn with
  | _ k ih =>
    intro f s hi hwf
    obtain ⟨x, f1, s1, ⟨n1, h1⟩, hk1, h⟩ := wcode_ok _ _ _ _ (hr k f s hi) hwf
    cases x with
    | normal =>
      obtain ⟨j, hj, hi'⟩ := h
      obtain ⟨x, f2, s2, ⟨n2, h2⟩, hk2, h⟩ := ih j hj f1 s1 hi' hk1.wf
      refine ⟨x, f2, s2, ⟨n1 + n2 + 1, fun m hm => ?_⟩, hk1.trans hk2, h⟩
      obtain ⟨m, rfl⟩ : ∃ k, m = k + 1 := ⟨m - 1, by omega⟩
      simp only [exec, step, h1 m (by omega), h2 m (by omega)]
    | exit id =>
      refine ⟨_, f1, s1, ⟨n1 + 1, fun m hm => ?_⟩, hk1, h⟩
      obtain ⟨m, rfl⟩ : ∃ k, m = k + 1 := ⟨m - 1, by omega⟩
      simp only [exec, step, h1 m (by omega)]
    | ret =>
      refine ⟨_, f1, s1, ⟨n1 + 1, fun m hm => ?_⟩, hk1, h⟩
      obtain ⟨m, rfl⟩ : ∃ k, m = k + 1 := ⟨m - 1, by omega⟩
      simp only [exec, step, h1 m (by omega)]
theorem Comes.loopAt {P : Program} {lib : Prims} {a : Code} {Q : AX → AFr → ASt → Prop} {f : AFr} {s : ASt} (Inv : Nat → AFr → ASt → Prop) {k : Nat} (h0 : Inv k f s) (hr : ∀ k f s, Inv k f s → wcode P lib a f s (wround Inv k Q)) : Comes P lib (.loop a) f s Q :=
  Comes.loop Inv hr k f s h0
theorem Comes.loopOut {P : Program} {lib : Prims} {a : Code} {Q' : AX → AFr → ASt → Prop} {f : AFr} {s : ASt} (Inv : Nat → AFr → ASt → Prop) (Out : AX → AFr → ASt → Prop) {k : Nat} (h0 : Inv k f s)
    (hr : ∀ Q : AX → AFr → ASt → Prop, (∀ x f s, Out x f s → Q x f s) → ∀ k f s, Inv k f s → wcode P lib a f s (wround Inv k Q)) (ho : ∀ x f s, Out x f s → Q' x f s) : Comes P lib (.loop a) f s Q' :=
  (Comes.loopAt (Q := Out) Inv h0 (hr Out (fun _ _ _ h => h))).mono ho
def wres (s : ASt) (Q : Value → ASt → Prop) : Option (List Value) → Prop
  | some l => Q (oneOf l) s
  | none => False
def wfn (P : Program) (rs : List ResultVar) (Q : Value → ASt → Prop) (x : AX) (f : AFr) (s : ASt) : Prop :=
  match x with
  | .exit _ => False
  | _ => wres s Q (resultsA P f s rs)
theorem wfn_ret (P : Program) (rs : List ResultVar) (Q : Value → ASt → Prop) (f : AFr) (s : ASt) : wfn P rs Q .ret f s = wres s Q (resultsA P f s rs) := rfl
theorem wfn_normal (P : Program) (rs : List ResultVar) (Q : Value → ASt → Prop) (f : AFr) (s : ASt) : wfn P rs Q .normal f s = wres s Q (resultsA P f s rs) := rfl
theorem wres_some (s : ASt) (Q : Value → ASt → Prop) (l : List Value) : wres s Q (some l) = Q (oneOf l) s := rfl
theorem Runs.of_code {P : Program} {lib : Prims} {g : FuncId} {args : List Value} {s : ASt} {Q : Value → ASt → Prop} {fn : Func} {c : Code} (hg : P.funcs[g]? = some fn) (hb : fn.body = some c) (hl : lib.at g = none) (hn : Nat.ble (args.length + (fn.ntmps - args.length)) 16000000 = true)
    (h : Comes P lib c (enterA fn args) s (wfn P fn.results.toList Q)) : Runs P lib g args s Q := by
  intro hwf
  obtain ⟨x, f1, s1, ⟨n1, h1⟩, hk1, h⟩ := h hwf
  have go : ∀ l, resultsA P f1 s1 fn.results.toList = some l → Q (oneOf l) s1 → (x = .normal ∨ x = .ret) → ∃ v s', (∃ n, ∀ m, n ≤ m → acall P lib m g args s = some (v, s')) ∧ Keeps s s' ∧ Q v s' := by
    intro l hr hq hx
    refine ⟨oneOf l, s1, ⟨n1, fun m hm => ?_⟩, hk1, hq⟩
    have h1 := h1 m hm
    rcases hx with rfl | rfl
    · simp only [acall, callStep, hl, hg, hb, hn, h1, hr]
    · simp only [acall, callStep, hl, hg, hb, hn, h1, hr]
  cases x with
  | exit id => exact h.elim
  | normal =>
    simp only [wfn, wres] at h
    split at h
    · exact go _ ‹_› h (.inl rfl)
    · exact h.elim
  | ret =>
    simp only [wfn, wres] at h
    split at h
    · exact go _ ‹_› h (.inr rfl)
    · exact h.elim
end Go.Cl
namespace Go.Cl
theorem get_put (f : AFr) (t u : Nat) (v : Value) : (f.put t v).get u = if t = u then v else f.get u := by
  by_cases h : t = u
  · subst h; simp only [AFr.get, AFr.put, Tr.get_set_self _ _ _ _ (deep (by omega)), if_pos]
  · simp only [AFr.get, AFr.put, Tr.get_set_ne _ _ _ _ _ h, if_neg h]
theorem n_put (f : AFr) (t : Nat) (v : Value) : (f.put t v).n = f.n := rfl
theorem enter_n (fn : Func) (args : List Value) : (enterA fn args).n = args.length + (fn.ntmps - args.length) := rfl
theorem enter_get (fn : Func) (args : List Value) (t : Nat) : (enterA fn args).get t = args.getD t undef := by
  simp only [enterA, AFr.get, setAll_get args .nil 0 t (by omega), Nat.zero_le, true_and, Nat.zero_add, Nat.sub_zero]
  by_cases h : t < args.length
  · simp only [if_pos h]
  · simp only [if_neg h, Tr.get]
    simp [List.getD, List.getElem?_eq_none (Nat.le_of_not_lt h)]
theorem evalA_tmp (f : AFr) (t : Tmp) : evalA f (.tmp t) = if t < f.n then some (f.get t) else none := by
  unfold evalA
  by_cases h : t < f.n
  · have hb : Nat.blt t f.n = true := by simpa [Nat.blt_eq] using h
    simp only [hb, if_true, if_pos h]
  · have hb : Nat.blt t f.n = false := by rw [← Bool.not_eq_true, Nat.blt_eq]; exact h
    simp [hb, if_neg h]
theorem evalA_bool (f : AFr) (b : Bool) : evalA f (.const (.bool b)) = some (.bool b) := rfl
theorem evalA_int (f : AFr) (k : IntKind) (n : Int) : evalA f (.const (.int k n)) = some (.int k n) := rfl
theorem evalA_string (f : AFr) (b : ByteArray) : evalA f (.const (.string b)) = some (.string b) := rfl
theorem evalA_snil (f : AFr) : evalA f (.const (.slice none 0 0)) = some (.slice none 0 0) := rfl
theorem evalA_pnil (f : AFr) : evalA f (.const (.pointer none)) = some (.pointer none) := rfl
theorem evalA_mnil (f : AFr) : evalA f (.const (.map none)) = some (.map none) := rfl
theorem evalA_func (f : AFr) (g : FuncId) : evalA f (.func g) = some (.func (.func g) #[] #[]) := rfl
theorem Runs.enter {P : Program} {lib : Prims} {g : FuncId} {args : List Value} {s : ASt} {Q : Value → ASt → Prop} {fn : Func} {c : Code} (N : Nat) (hg : P.funcs[g]? = some fn) (hb : fn.body = some c) (hl : lib.at g = none) (hN : args.length + (fn.ntmps - args.length) = N) (hn : Nat.ble N 16000000 = true)
    (h : ∀ f : AFr, f.n = N → (∀ t, f.get t = args.getD t undef) → wcode P lib c f s (wfn P fn.results.toList Q)) : Runs P lib g args s Q :=
  Runs.of_code hg hb hl (by rw [hN]; exact hn) (wcode_ok _ _ _ _ (h _ (by rw [enter_n, hN]) (enter_get fn args)))
section
variable (P : Program) (f : AFr) (s : ASt) (d : Option Tmp) (ty : TypeId) (ps : String) (af : Array Edge) (gd : Option (Nat × Bool))
theorem aop_move (x : Operand) : aop P ⟨d, .move x, ty, ps, af, gd⟩ f s = vOf s (evalA f x) := rfl
theorem aop_assign (x : Operand) : aop P ⟨d, .assign x, ty, ps, af, gd⟩ f s = vOf s (evalA f x) := rfl
theorem aop_pick (c a b : Operand) : aop P ⟨d, .pick c a b, ty, ps, af, gd⟩ f s = match evalA f c, evalA f a, evalA f b with
    | some (.bool t), some u, some v => some (.val (if t then u else v) s)
    | _, _, _ => none := rfl
theorem aop_alloc (e : TypeId) : aop P ⟨d, .alloc e, ty, ps, af, gd⟩ f s = match zeroB P e with
    | some z => if plainV z then pOf (newPtr s z.cells.toList (boxEsz P e)) else none
    | none => none := rfl
theorem aop_box (e : TypeId) (x : Operand) : aop P ⟨d, .box e x, ty, ps, af, gd⟩ f s = match evalA f x with
    | some v => pOf (newPtr s v.cells.toList (boxEsz P e))
    | none => none := rfl
theorem aop_build (t : TypeId) (q : Array (Nat × Operand)) : aop P ⟨d, .build t q, ty, ps, af, gd⟩ f s = match partsA f q.toList with
    | some l => vOf s (buildA P t l)
    | none => none := rfl
theorem aop_buildSlice (t : TypeId) (n : Nat) (q : Array (Nat × Operand)) : aop P ⟨d, .buildSlice t n q, ty, ps, af, gd⟩ f s = match partsA f q.toList with
    | some l => pOf (buildSliceA P s t n l)
    | none => none := rfl
theorem aop_load (t : TypeId) (x : Operand) : aop P ⟨d, .load t x, ty, ps, af, gd⟩ f s = match evalA f x with
    | some a => vOf s (loadA P s t a)
    | none => none := rfl
theorem aop_store (t : TypeId) (x y : Operand) : aop P ⟨d, .store t x y, ty, ps, af, gd⟩ f s = match evalA f x, evalA f y with
    | some a, some v => uOf (storeA P s t a v)
    | _, _ => none := rfl
theorem aop_nilCheck (x : Operand) : aop P ⟨d, .nilCheck x, ty, ps, af, gd⟩ f s = match evalA f x with
    | some (.pointer (some a)) => some (.val (.pointer (some a)) s)
    | some (.func (.func g) as bs) => some (.val (.func (.func g) as bs) s)
    | _ => none := rfl
theorem aop_binOp (op : BinOp) (t t2 : TypeId) (x y : Operand) : aop P ⟨d, .binOp op t x y t2, ty, ps, af, gd⟩ f s = match evalA f x, evalA f y with
    | some u, some v => vOf s (binA P op t u v)
    | _, _ => none := rfl
theorem aop_unOp (op : UnOp) (t : TypeId) (x : Operand) : aop P ⟨d, .unOp op t x, ty, ps, af, gd⟩ f s = match evalA f x with
    | some u => vOf s (unA op u)
    | none => none := rfl
theorem aop_convert (a b : TypeId) (x : Operand) : aop P ⟨d, .convert a b x, ty, ps, af, gd⟩ f s = match evalA f x with
    | some u => pOf (convA P s a b u)
    | none => none := rfl
theorem aop_makeMap (t : TypeId) : aop P ⟨d, .makeMap t none, ty, ps, af, gd⟩ f s = some (.val (.map (some s.next)) (s.new (.map []))) := rfl
theorem aop_makeSlice (t : TypeId) (x y : Operand) : aop P ⟨d, .makeSlice t x y, ty, ps, af, gd⟩ f s = match evalA f x, evalA f y with
    | some u, some v => pOf (makeSliceA P s t u v)
    | _, _ => none := rfl
theorem aop_slice (t : TypeId) (x : Operand) (lo hi mx : Option Operand) : aop P ⟨d, .slice t x lo hi mx, ty, ps, af, gd⟩ f s = match evalA f x, optA f lo, optA f hi, optA f mx with
    | some u, some l, some h, some m => vOf s (sliceA P s t u l h m)
    | _, _, _, _ => none := rfl
theorem aop_fieldAddr (t : TypeId) (x : Operand) (i : Nat) : aop P ⟨d, .fieldAddr t x i, ty, ps, af, gd⟩ f s = match evalA f x with
    | some u => vOf s (fieldAddrA P t u i)
    | none => none := rfl
theorem aop_field (t : TypeId) (x : Operand) (i : Nat) : aop P ⟨d, .field t x i, ty, ps, af, gd⟩ f s = match evalA f x with
    | some u => vOf s (fieldA P t u i)
    | none => none := rfl
theorem aop_indexAddr (t : TypeId) (x y : Operand) : aop P ⟨d, .indexAddr t x y, ty, ps, af, gd⟩ f s = match evalA f x, evalA f y with
    | some u, some v => vOf s (indexAddrA P t u v)
    | _, _ => none := rfl
theorem aop_index (t : TypeId) (x y : Operand) : aop P ⟨d, .index t x y, ty, ps, af, gd⟩ f s = match evalA f x, evalA f y with
    | some u, some v => vOf s (indexA P t u v)
    | _, _ => none := rfl
theorem aop_lookup (t : TypeId) (x y : Operand) (ok : Bool) : aop P ⟨d, .lookup t x y ok, ty, ps, af, gd⟩ f s = match evalA f x, evalA f y with
    | some u, some v => vOf s (lookupA P s t u v ok)
    | _, _ => none := rfl
theorem aop_mapUpdate (t : TypeId) (x y z : Operand) : aop P ⟨d, .mapUpdate t x y z, ty, ps, af, gd⟩ f s = match evalA f x, evalA f y, evalA f z with
    | some m, some k, some v => uOf (mapUpdateA P s t m k v)
    | _, _, _ => none := rfl
theorem aop_extract (x : Operand) (i : Nat) : aop P ⟨d, .extract x i, ty, ps, af, gd⟩ f s = match evalA f x with
    | some u => vOf s (extractA u i)
    | none => none := rfl
theorem aop_call_value (x : Operand) (args : Array Operand) (ts : Array TypeId) : aop P ⟨d, .call ⟨.value x, args, ts⟩, ty, ps, af, gd⟩ f s = match evalAll f args.toList with
    | some l => match evalA f x with
      | some (.func (.func g) as bs) => some (.call g (as.toList ++ l ++ bs.toList))
      | _ => none
    | none => none := rfl
theorem aop_call_builtin (b : Builtin) (args : Array Operand) (ts : Array TypeId) : aop P ⟨d, .call ⟨.builtin b, args, ts⟩, ty, ps, af, gd⟩ f s = match evalAll f args.toList with
    | some l => builtinA P s b ts.toList l
    | none => none := rfl
theorem wanted_none (all : List Oper) (op : Op) : wantedA all ⟨d, op, ty, ps, af, none⟩ f = true := rfl
theorem wanted_some (all : List Oper) (op : Op) (j : Nat) (w : Bool) : wantedA all ⟨d, op, ty, ps, af, some (j, w)⟩ f = match yieldA all f j with
    | some b => b == w
    | none => false := rfl
def yieldOf (f : AFr) : List Oper → Option Bool
  | o :: _ =>
    match o.dst with
    | some d => if d < f.n then (match f.get d with
        | .bool b => some b
        | _ => none) else none
    | none => none
  | [] => none
theorem yieldA_eq (all : List Oper) (j : Nat) : yieldA all f j = yieldOf f (all.drop j) := by
  unfold yieldA yieldOf
  cases all.drop j with
  | nil => rfl
  | cons o r =>
    simp only
    cases o.dst with
    | none => rfl
    | some d =>
      simp only
      by_cases hd : d < f.n
      · have hb : Nat.blt d f.n = true := by simpa [Nat.blt_eq] using hd
        simp only [hb, if_true, if_pos hd]
        cases f.get d <;> rfl
      · have hb : Nat.blt d f.n = false := by rw [← Bool.not_eq_true, Nat.blt_eq]; exact hd
        simp [hb, if_neg hd]
theorem yieldOf_cons (t : Tmp) (op : Op) (r : List Oper) : yieldOf f (⟨some t, op, ty, ps, af, gd⟩ :: r) = if t < f.n then (match f.get t with
        | .bool b => some b
        | _ => none) else none := rfl
end
theorem cells_agg (cs : Array Value) : (Value.agg cs).cells = cs := rfl
theorem vOf_some (s : ASt) (v : Value) : vOf s (some v) = some (.val v s) := rfl
theorem pOf_some (v : Value) (s : ASt) : pOf (some (v, s)) = some (.val v s) := rfl
theorem uOf_some (s : ASt) : uOf (some s) = some (.val undef s) := rfl
theorem builtin_len (P : Program) (s : ASt) (t : TypeId) (x : Value) : builtinA P s .len [t] [x] = vOf s (lenA P s t x) := rfl
theorem builtin_append (P : Program) (s : ASt) (t u : TypeId) (x y : Value) : builtinA P s .append [t, u] [x, y] = pOf (appendA P s t u x y) := rfl
theorem builtin_copy (P : Program) (s : ASt) (t u : TypeId) (x y : Value) : builtinA P s .copy [t, u] [x, y] = pOf (copyA P s t x y) := rfl
theorem builtin_min (P : Program) (s : ASt) (t u : TypeId) (k : IntKind) (x y : Int) : builtinA P s .min [t, u] [.int k x, .int k y] = some (.val (.int k (if y < x then y else x)) s) := rfl
theorem builtin_max (P : Program) (s : ASt) (t u : TypeId) (k : IntKind) (x y : Int) : builtinA P s .max [t, u] [.int k x, .int k y] = some (.val (.int k (if y > x then y else x)) s) := rfl
section
variable (P : Program) (d : Option Tmp) (ty : TypeId) (ps : String) (af : Array Edge) (gd : Option (Nat × Bool))
theorem allQuiet_nil : allQuiet P [] = true := rfl
theorem allQuiet_cons (o : Oper) (r : List Oper) : allQuiet P (o :: r) = (quietOp P o && allQuiet P r) := rfl
theorem quiet_move (x : Operand) : quietOp P ⟨d, .move x, ty, ps, af, gd⟩ = true := rfl
theorem quiet_assign (x : Operand) : quietOp P ⟨d, .assign x, ty, ps, af, gd⟩ = true := rfl
theorem quiet_pick (a b c : Operand) : quietOp P ⟨d, .pick a b c, ty, ps, af, gd⟩ = true := rfl
theorem quiet_load (t : TypeId) (x : Operand) : quietOp P ⟨d, .load t x, ty, ps, af, gd⟩ = true := rfl
theorem quiet_nilCheck (x : Operand) : quietOp P ⟨d, .nilCheck x, ty, ps, af, gd⟩ = true := rfl
theorem quiet_binOp (op : BinOp) (t t2 : TypeId) (x y : Operand) : quietOp P ⟨d, .binOp op t x y t2, ty, ps, af, gd⟩ = true := rfl
theorem quiet_unOp (op : UnOp) (t : TypeId) (x : Operand) : quietOp P ⟨d, .unOp op t x, ty, ps, af, gd⟩ = true := rfl
theorem quiet_indexAddr (t : TypeId) (x y : Operand) : quietOp P ⟨d, .indexAddr t x y, ty, ps, af, gd⟩ = true := rfl
theorem quiet_index (t : TypeId) (x y : Operand) : quietOp P ⟨d, .index t x y, ty, ps, af, gd⟩ = true := rfl
theorem quiet_fieldAddr (t : TypeId) (x : Operand) (i : Nat) : quietOp P ⟨d, .fieldAddr t x i, ty, ps, af, gd⟩ = true := rfl
theorem quiet_field (t : TypeId) (x : Operand) (i : Nat) : quietOp P ⟨d, .field t x i, ty, ps, af, gd⟩ = true := rfl
theorem quiet_slice (t : TypeId) (x : Operand) (l h m : Option Operand) : quietOp P ⟨d, .slice t x l h m, ty, ps, af, gd⟩ = true := rfl
theorem quiet_extract (x : Operand) (i : Nat) : quietOp P ⟨d, .extract x i, ty, ps, af, gd⟩ = true := rfl
theorem quiet_len (args : Array Operand) (ts : Array TypeId) : quietOp P ⟨d, .call ⟨.builtin .len, args, ts⟩, ty, ps, af, gd⟩ = true := rfl
theorem quiet_call (x : Operand) (args : Array Operand) (ts : Array TypeId) : quietOp P ⟨d, .call ⟨.value x, args, ts⟩, ty, ps, af, gd⟩ = false := rfl
theorem quiet_buildSlice (t : TypeId) (n : Nat) (q : Array (Nat × Operand)) : quietOp P ⟨d, .buildSlice t n q, ty, ps, af, gd⟩ = false := rfl
theorem quiet_build (t : TypeId) (q : Array (Nat × Operand)) : quietOp P ⟨d, .build t q, ty, ps, af, gd⟩ = true := rfl
theorem quiet_store (t : TypeId) (x y : Operand) : quietOp P ⟨d, .store t x y, ty, ps, af, gd⟩ = false := rfl
theorem quiet_box (t : TypeId) (x : Operand) : quietOp P ⟨d, .box t x, ty, ps, af, gd⟩ = false := rfl
theorem quiet_alloc (t : TypeId) : quietOp P ⟨d, .alloc t, ty, ps, af, gd⟩ = false := rfl
theorem quiet_makeSlice (t : TypeId) (x y : Operand) : quietOp P ⟨d, .makeSlice t x y, ty, ps, af, gd⟩ = false := rfl
theorem quiet_append (args : Array Operand) (ts : Array TypeId) : quietOp P ⟨d, .call ⟨.builtin .append, args, ts⟩, ty, ps, af, gd⟩ = false := rfl
theorem quiet_copy (args : Array Operand) (ts : Array TypeId) : quietOp P ⟨d, .call ⟨.builtin .copy, args, ts⟩, ty, ps, af, gd⟩ = false := rfl
theorem quiet_min (args : Array Operand) (ts : Array TypeId) : quietOp P ⟨d, .call ⟨.builtin .min, args, ts⟩, ty, ps, af, gd⟩ = true := rfl
theorem quiet_max (args : Array Operand) (ts : Array TypeId) : quietOp P ⟨d, .call ⟨.builtin .max, args, ts⟩, ty, ps, af, gd⟩ = true := rfl
theorem alloc_buildSlice (t : TypeId) (n : Nat) (q : Array (Nat × Operand)) : allocOp P ⟨d, .buildSlice t n q, ty, ps, af, gd⟩ = true := rfl
theorem alloc_store (t : TypeId) (x y : Operand) : allocOp P ⟨d, .store t x y, ty, ps, af, gd⟩ = false := rfl
theorem alloc_box (t : TypeId) (x : Operand) : allocOp P ⟨d, .box t x, ty, ps, af, gd⟩ = true := rfl
theorem alloc_alloc (t : TypeId) : allocOp P ⟨d, .alloc t, ty, ps, af, gd⟩ = true := rfl
theorem alloc_makeSlice (t : TypeId) (x y : Operand) : allocOp P ⟨d, .makeSlice t x y, ty, ps, af, gd⟩ = true := rfl
theorem alloc_call (c : Go.Call) : allocOp P ⟨d, .call c, ty, ps, af, gd⟩ = false := rfl
theorem alloc_convert (a b : TypeId) (x : Operand) : allocOp P ⟨d, .convert a b x, ty, ps, af, gd⟩ = textConv P a b := rfl
theorem alloc_move (x : Operand) : allocOp P ⟨d, .move x, ty, ps, af, gd⟩ = false := rfl
theorem alloc_assign (x : Operand) : allocOp P ⟨d, .assign x, ty, ps, af, gd⟩ = false := rfl
theorem alloc_pick (a b c : Operand) : allocOp P ⟨d, .pick a b c, ty, ps, af, gd⟩ = false := rfl
theorem alloc_load (t : TypeId) (x : Operand) : allocOp P ⟨d, .load t x, ty, ps, af, gd⟩ = false := rfl
theorem alloc_nilCheck (x : Operand) : allocOp P ⟨d, .nilCheck x, ty, ps, af, gd⟩ = false := rfl
theorem alloc_binOp (op : BinOp) (t t2 : TypeId) (x y : Operand) : allocOp P ⟨d, .binOp op t x y t2, ty, ps, af, gd⟩ = false := rfl
theorem alloc_unOp (op : UnOp) (t : TypeId) (x : Operand) : allocOp P ⟨d, .unOp op t x, ty, ps, af, gd⟩ = false := rfl
theorem alloc_indexAddr (t : TypeId) (x y : Operand) : allocOp P ⟨d, .indexAddr t x y, ty, ps, af, gd⟩ = false := rfl
theorem alloc_index (t : TypeId) (x y : Operand) : allocOp P ⟨d, .index t x y, ty, ps, af, gd⟩ = false := rfl
theorem alloc_fieldAddr (t : TypeId) (x : Operand) (i : Nat) : allocOp P ⟨d, .fieldAddr t x i, ty, ps, af, gd⟩ = false := rfl
theorem alloc_field (t : TypeId) (x : Operand) (i : Nat) : allocOp P ⟨d, .field t x i, ty, ps, af, gd⟩ = false := rfl
theorem alloc_slice (t : TypeId) (x : Operand) (l h m : Option Operand) : allocOp P ⟨d, .slice t x l h m, ty, ps, af, gd⟩ = false := rfl
theorem alloc_extract (x : Operand) (i : Nat) : allocOp P ⟨d, .extract x i, ty, ps, af, gd⟩ = false := rfl
theorem quiet_convert (a b : TypeId) (x : Operand) : quietOp P ⟨d, .convert a b x, ty, ps, af, gd⟩ = match P.underlying b with
    | some (.slice _) => false
    | _ => true := rfl
end
theorem resultsA_nil (P : Program) (f : AFr) (s : ASt) : resultsA P f s [] = some [] := rfl
theorem resultsA_tmp (P : Program) (f : AFr) (s : ASt) (t : Tmp) (r : List ResultVar) : resultsA P f s (.tmp t :: r) = if t < f.n then (match resultsA P f s r with
    | some l => some (f.get t :: l)
    | none => none) else none := by
  by_cases h : t < f.n
  · have hb : Nat.blt t f.n = true := by simpa [Nat.blt_eq] using h
    rw [if_pos h]
    conv => lhs; rw [resultsA]
    simp only [hb, if_true]
    rfl
  · have hb : Nat.blt t f.n = false := by rw [← Bool.not_eq_true, Nat.blt_eq]; exact h
    rw [if_neg h]
    conv => lhs; rw [resultsA]
    simp [hb]
section
variable (P : Program) (t : TypeId) (k : IntKind) (a b : Int)
theorem bin_add : binA P .add t (.int k a) (.int k b) = some (.int k (k.wrap (a + b))) := by simp [binA, intOp]
theorem bin_sub : binA P .sub t (.int k a) (.int k b) = some (.int k (k.wrap (a - b))) := by simp [binA, intOp]
theorem bin_mul : binA P .mul t (.int k a) (.int k b) = some (.int k (k.wrap (a * b))) := by simp [binA, intOp]
theorem bin_rem (h : b ≠ 0) : binA P .rem t (.int k a) (.int k b) = some (.int k (a.tmod b)) := by simp [binA, intOp, h]
theorem bin_and : binA P .and t (.int k a) (.int k b) = some (.int k (k.wrap (BitVec.ofInt k.bits a &&& BitVec.ofInt k.bits b).toNat)) := by simp [binA, intOp]
theorem bin_eql : binA P .eql t (.int k a) (.int k b) = some (.bool (decide (a = b))) := by simp [binA, intOp]; rfl
theorem bin_neq : binA P .neq t (.int k a) (.int k b) = some (.bool (decide (a ≠ b))) := by
  simp only [binA, intOp, if_true]
  by_cases h : a = b <;> simp [h]
theorem bin_lss : binA P .lss t (.int k a) (.int k b) = some (.bool (decide (a < b))) := by simp [binA, intOp]
theorem bin_leq : binA P .leq t (.int k a) (.int k b) = some (.bool (decide (a ≤ b))) := by simp [binA, intOp]
theorem bin_gtr : binA P .gtr t (.int k a) (.int k b) = some (.bool (decide (b < a))) := by simp [binA, intOp]
theorem bin_geq : binA P .geq t (.int k a) (.int k b) = some (.bool (decide (b ≤ a))) := by simp [binA, intOp]
theorem bin_shr (k' : IntKind) (h : 0 ≤ b) : binA P .shr t (.int k a) (.int k' b) = some (.int k (a.fdiv (2 ^ (min b.toNat k.bits)))) := by simp [binA, shiftOp]; omega
theorem un_not (x : Bool) : unA .not (.bool x) = some (.bool (!x)) := rfl
theorem un_neg : unA .neg (.int k a) = some (.int k (k.wrap (0 - a))) := rfl
end
theorem wrapI {x : Int} (h : -9223372036854775808 ≤ x ∧ x ≤ 9223372036854775807) : IntKind.i64.wrap x = x := by
  have e1 : IntKind.i64.bits = 64 := rfl
  have e2 : IntKind.i64.signed = true := rfl
  simp only [IntKind.wrap, e1, e2, Bool.true_and]
  split <;> simp_all <;> omega
theorem conv_int {P : Program} {s : ASt} {src dst : TypeId} {k j : IntKind} {d : TypeDesc} {n : Int} (h1 : P.underlying src = some d) (h2 : P.underlying dst = some (.int k)) : convA P s src dst (.int j n) = some (.int k (k.wrap n), s) := by
  unfold convA; rw [h1, h2]
theorem valEq_bool (b : Bool) : valEq (.bool b) (.bool b) = true := by simp [valEq, valEq1]
theorem valEq_int (k : IntKind) (n : Int) : valEq (.int k n) (.int k n) = true := by simp [valEq, valEq1]
theorem valEq_string (b : ByteArray) : valEq (.string b) (.string b) = true := by simp [valEq, valEq1]
theorem valEq_pointer (a : Option Addr) : valEq (.pointer a) (.pointer a) = true := by simp [valEq, valEq1]
theorem valEq_slice (a : Option Addr) (n c : Nat) : valEq (.slice a n c) (.slice a n c) = true := by
  simp only [valEq, valEq1, if_true, Bool.true_and, Bool.and_eq_true]; exact ⟨Nat.beq_refl n, Nat.beq_refl c⟩
structure Stay (base : Nat) (s s' : ASt) : Prop where
  next : s.next ≤ s'.next
  get : ∀ i, i < base → s'.heap.get i = s.heap.get i
theorem Stay.refl (base : Nat) (s : ASt) : Stay base s s := ⟨Nat.le_refl _, fun _ _ => rfl⟩
theorem Stay.trans {base : Nat} {s s' s'' : ASt} (h : Stay base s s') (k : Stay base s' s'') : Stay base s s'' := ⟨Nat.le_trans h.next k.next, fun i hi => (k.get i hi).trans (h.get i hi)⟩
theorem Stay.weaken {base b2 : Nat} {s s' : ASt} (h : Stay base s s') (hb : b2 ≤ base) : Stay b2 s s' := ⟨h.next, fun i hi => h.get i (by omega)⟩
theorem Stay.blk {base : Nat} {s s' : ASt} (h : Stay base s s') {i : Nat} (hi : i < base) : s'.blk? i = s.blk? i := by simp only [ASt.blk?, h.get i hi]
theorem Stay.new (s : ASt) (o : AO) : Stay s.next s (s.new o) := by
  refine ⟨by simp [ASt.new], fun i hi => ?_⟩
  simp only [ASt.new, Tr.get_set_ne _ _ _ _ _ (Nat.ne_of_gt hi)]
theorem blk_new (s : ASt) (b : Blk) : (s.new (.blk b)).blk? s.next = some b := by simp only [ASt.new, ASt.blk?, Tr.get_set_self _ _ _ _ (deep (by omega))]
theorem next_new (s : ASt) (o : AO) : (s.new o).next = s.next + 1 := rfl
inductive Sees (s : ASt) (z : Nat) : Value → Nat → List Value → Prop
  | nil : Sees s z (.slice none 0 0) 0 []
  | bare (i off : Nat) : Sees s z (.slice (some ⟨i, off, none⟩) 0 0) 0 []
  | of (i off n c : Nat) (b : Blk) (l : List Value) (hi : i < s.next) (hb : s.blk? i = some b) (hz : b.esz = z) (hl : b.low ≤ c) (hc : c ≤ b.cells.length + 1)
      (hlen : l.length = n * z) (hoff : off + n * z < c) (ht : (b.cells.drop off).take (n * z) = l) : Sees s z (.slice (some ⟨i, off, none⟩) n c) n l
theorem Sees.length {s : ASt} {z : Nat} {v : Value} {n : Nat} {l : List Value} (h : Sees s z v n l) : l.length = n * z := by
  cases h with
  | nil => simp
  | bare => simp
  | of i off n c b l hi hb hz hl hc hlen hoff ht => exact hlen
theorem Sees.keeps {s s' : ASt} {z : Nat} {v : Value} {n : Nat} {l : List Value} (h : Sees s z v n l) (k : Stay s.next s s') : Sees s' z v n l := by
  cases h with
  | nil => exact .nil
  | bare => exact .bare _ _
  | of i off n c b l hi hb hz hl hc hlen hoff ht => exact .of i off n c b l (Nat.lt_of_lt_of_le hi k.next) ((k.blk hi).trans hb) hz hl hc hlen hoff ht
theorem Sees.lenA {P : Program} {t e : TypeId} (hu : P.underlying t = some (.slice e)) {s s2 : ASt} {z : Nat} {v : Value} {n : Nat} {l : List Value} (h : Sees s z v n l) : Cl.lenA P s2 t v = some (.int .i64 n) := by
  unfold Cl.lenA; rw [hu]
  cases h <;> rfl
def elemPtr (z : Nat) (v : Value) (k : Nat) : Value :=
  match v with
  | .slice (some ⟨i, off, none⟩) _ c => .pointer (some ⟨i, off + k * z, some c⟩)
  | _ => .pointer none
theorem cellsAt_eq {s : ASt} {i off c n : Nat} {b : Blk} (hb : s.blk? i = some b) (hl : b.low ≤ c) (hc : c ≤ b.cells.length + 1) (ho : off + n < c) : s.cellsAt i off c n = some ((b.cells.drop off).take n) := by
  unfold ASt.cellsAt
  rw [hb]
  have h1 : (Nat.ble b.low c && Nat.ble c (b.cells.length + 1) && Nat.blt (off + n) c) = true := by
    simp only [Bool.and_eq_true, Nat.ble_eq, Nat.blt_eq]; exact ⟨⟨hl, hc⟩, ho⟩
  simp only [h1, if_true]
  rw [dropN_eq, takeN_eq, if_pos (by simp; omega)]
theorem Sees.indexAddr {P : Program} {t e : TypeId} {z : Nat} (hu : P.underlying t = some (.slice e)) (hsz : sizeB P e = some z) {s : ASt} {v : Value} {n : Nat} {l : List Value} (h : Sees s z v n l) {k : IntKind} {x : Int} (h0 : 0 ≤ x) (hx : x < n) :
    indexAddrA P t v (.int k x) = some (elemPtr z v x.toNat) := by
  obtain ⟨y, rfl⟩ : ∃ y : Nat, x = y := ⟨x.toNat, by omega⟩
  have hy : y < n := by omega
  unfold indexAddrA; rw [hu]
  cases h with
  | nil => omega
  | bare => omega
  | of i off n c b l hi hb hz hl hc hlen hoff ht =>
    have hb2 : Nat.blt y n = true := by simpa [Nat.blt_eq] using hy
    show (match sizeB P e with | some z => if Nat.blt y n then some (Value.pointer (some ⟨i, off + y * z, some c⟩)) else none | none => none) = _
    rw [hsz]
    simp only [hb2, if_true, elemPtr, Int.toNat_natCast]
theorem Sees.cells {s : ASt} {z : Nat} {v : Value} {n : Nat} {l : List Value} (h : Sees s z v n l) {k : Nat} (hk : k < n) : ∃ i off c, elemPtr z v k = .pointer (some ⟨i, off, some c⟩) ∧ s.cellsAt i off c z = some ((l.drop (k * z)).take z) := by
  cases h with
  | nil => omega
  | bare => omega
  | of i off n c b l hi hb hz hl hc hlen hoff ht =>
    have hkz : k * z + z ≤ n * z := by
      have : (k + 1) * z ≤ n * z := Nat.mul_le_mul_right z hk
      rwa [Nat.succ_mul] at this
    refine ⟨i, off + k * z, c, rfl, ?_⟩
    rw [cellsAt_eq hb hl hc (by omega), ← ht, List.drop_take, List.drop_drop, List.take_take]
    congr 2
    omega
theorem Sees.load1 {P : Program} {e : TypeId} (hag : isAggB P e = some false) {s : ASt} {v : Value} {n : Nat} {l : List Value} (h : Sees s 1 v n l) {k : Nat} (hk : k < n) : loadA P s e (elemPtr 1 v k) = some (l.getD k undef) := by
  obtain ⟨i, off, c, e1, e2⟩ := h.cells hk
  have hl := h.length
  rw [e1]
  unfold loadA
  simp only [hag, e2]
  have : (l.drop (k * 1)).take 1 = [l.getD k undef] := by
    rw [Nat.mul_one, List.take_one, List.head?_drop, List.getElem?_eq_getElem (by omega)]
    simp [List.getD, List.getElem?_eq_getElem (show k < l.length by omega)]
  rw [this]
theorem Sees.loadAgg {P : Program} {e : TypeId} {z : Nat} (hag : isAggB P e = some true) (hsz : sizeB P e = some z) {s : ASt} {v : Value} {n : Nat} {l : List Value} (h : Sees s z v n l) {k : Nat} (hk : k < n) : loadA P s e (elemPtr z v k) = some (.agg ((l.drop (k * z)).take z).toArray) := by
  obtain ⟨i, off, c, e1, e2⟩ := h.cells hk
  rw [e1]
  unfold loadA
  simp only [hag, hsz, e2]
def cutS (z : Nat) (v : Value) (lo hi : Nat) : Value :=
  match v with
  | .slice (some ⟨i, off, none⟩) _ c => .slice (some ⟨i, off + lo * z, none⟩) (hi - lo) c
  | _ => .slice none 0 0
theorem Sees.cut {s : ASt} {z : Nat} {v : Value} {n : Nat} {l : List Value} (h : Sees s z v n l) {lo hi : Nat} (h1 : lo ≤ hi) (h2 : hi ≤ n) : Sees s z (cutS z v lo hi) (hi - lo) ((l.drop (lo * z)).take ((hi - lo) * z)) := by
  cases h with
  | nil => obtain rfl : hi = 0 := by omega
           obtain rfl : lo = 0 := by omega
           simpa [cutS] using (Sees.nil (s := s) (z := z))
  | bare i off => obtain rfl : hi = 0 := by omega
                  obtain rfl : lo = 0 := by omega
                  simpa [cutS] using (Sees.bare (s := s) (z := z) i (off + 0 * z))
  | of i off n c b l hi' hb hz hl hc hlen hoff ht =>
    have e : lo * z + (hi - lo) * z ≤ n * z := by
      rw [← Nat.add_mul]; exact Nat.mul_le_mul_right z (by omega)
    refine .of i (off + lo * z) (hi - lo) c b _ hi' hb hz hl hc ?_ (by omega) ?_
    · rw [List.length_take, List.length_drop, hlen]; omega
    · rw [← ht, List.drop_take, List.drop_drop, List.take_take]
      congr 1
      omega
theorem Sees.slice {P : Program} {t e : TypeId} {z : Nat} (hu : P.underlying t = some (.slice e)) (hsz : sizeB P e = some z) {s : ASt} {v : Value} {n : Nat} {l : List Value} (h : Sees s z v n l) {lo hi : Option Value} {a b : Nat}
    (ha : natOf lo 0 = some a) (hb : natOf hi n = some b) (h1 : a ≤ b) (h2 : b ≤ n) : sliceA P s t v lo hi none = some (cutS z v a b) := by
  have hab : (Nat.ble a b && Nat.ble b n) = true := by simp only [Bool.and_eq_true, Nat.ble_eq]; exact ⟨h1, h2⟩
  cases h with
  | nil => unfold sliceA; rw [hu]; simp only [ha, hb, hsz, hab, if_true, cutS]
  | bare i off =>
    unfold sliceA; rw [hu]; simp only [ha, hb, hsz, hab, if_true, eszIs, cutS]
  | of i off n c bk l hi' hbk hz hl hc hlen hoff ht =>
    have he : eszIs s i c z = true := by
      unfold eszIs
      split
      · rfl
      · rw [hbk]; simp [hz]
    unfold sliceA; rw [hu]; simp only [ha, hb, hsz, hab, if_true, he, cutS]
theorem natOf_none (d : Nat) : natOf none d = some d := rfl
theorem natOf_int {k : IntKind} {x : Int} {d : Nat} (h : 0 ≤ x) : natOf (some (.int k x)) d = some x.toNat := by
  obtain ⟨y, rfl⟩ : ∃ y : Nat, x = y := ⟨x.toNat, by omega⟩
  rfl
theorem Sees.src {s : ASt} {z : Nat} {v : Value} {n : Nat} {l : List Value} (h : Sees s z v n l) : srcCells s z v = some (n, l) := by
  cases h with
  | nil => rfl
  | bare => rfl
  | of i off n c b l hi' hb hz hl hc hlen hoff ht =>
    cases n with
    | zero =>
      have : l = [] := List.eq_nil_of_length_eq_zero (by simpa using hlen)
      subst this; rfl
    | succ n =>
      simp only [srcCells]
      rw [cellsAt_eq hb hl hc hoff, ht]
inductive Own (s : ASt) (z : Nat) : Value → Nat → List Value → Prop
  | nil : Own s z (.slice none 0 0) 0 []
  | of (i n low : Nat) (l : List Value) (hi : i < s.next) (hb : s.blk? i = some ⟨l, low, true, z⟩) (hl : low ≤ l.length + 1) (hlen : l.length = n * z) : Own s z (.slice (some ⟨i, 0, none⟩) n (l.length + 1)) n l
def idOf : Value → Option Nat
  | .slice (some a) _ _ => some a.block
  | .pointer (some a) => some a.block
  | _ => none
def Fresh (base : Nat) (v : Value) : Prop := ∀ i, idOf v = some i → base ≤ i
theorem Fresh.nil (base : Nat) : Fresh base (.slice none 0 0) := fun i h => by cases h
theorem Own.sees {s : ASt} {z : Nat} {v : Value} {n : Nat} {l : List Value} (h : Own s z v n l) : Sees s z v n l := by
  cases h with
  | nil => exact .nil
  | of i n low l hi hb hl hlen => exact .of i 0 n _ _ l hi hb rfl hl (Nat.le_refl _) hlen (by omega) (by simp [← hlen])
theorem Own.length {s : ASt} {z : Nat} {v : Value} {n : Nat} {l : List Value} (h : Own s z v n l) : l.length = n * z := h.sees.length
theorem Own.keeps {s s' : ASt} {z : Nat} {v : Value} {n : Nat} {l : List Value} (h : Own s z v n l) (k : Stay s.next s s') : Own s' z v n l := by
  cases h with
  | nil => exact .nil
  | of i n low l hi hb hl hlen => exact .of i n low l (Nat.lt_of_lt_of_le hi k.next) ((k.blk hi).trans hb) hl hlen
structure Turns (v : Value) (s s' : ASt) : Prop where
  next : s.next ≤ s'.next
  get : ∀ i, i < s.next → idOf v ≠ some i → s'.heap.get i = s.heap.get i
theorem Turns.keeps {base : Nat} {v : Value} {s s' : ASt} (h : Turns v s s') (hf : Fresh base v) (hb : base ≤ s.next) : Stay base s s' :=
  ⟨h.next, fun i hi => h.get i (by omega) (fun e => by have := hf i e; omega)⟩
theorem Own.turns {s s' : ASt} {z : Nat} {v u : Value} {n : Nat} {l : List Value} (h : Own s z v n l) (k : Turns u s s') (hne : ∀ i, idOf v = some i → idOf u ≠ some i) : Own s' z v n l := by
  cases h with
  | nil => exact .nil
  | of i n low l hi hb hl hlen =>
    refine .of i n low l (Nat.lt_of_lt_of_le hi k.next) ?_ hl hlen
    simp only [ASt.blk?, k.get i hi (hne i rfl)]; exact hb
theorem Own.new {s : ASt} {cs : List Value} {n z : Nat} (h : cs.length = n * z) : newSlice s cs n z = some (.slice (some ⟨s.next, 0, none⟩) n (cs.length + 1), s.new (.blk ⟨cs, 1, true, z⟩)) ∧ Own (s.new (.blk ⟨cs, 1, true, z⟩)) z (.slice (some ⟨s.next, 0, none⟩) n (cs.length + 1)) n cs := by
  refine ⟨by simp [newSlice, ASt.room], .of s.next n 1 cs (by rw [next_new]; omega) (blk_new _ _) (by omega) h⟩
theorem Own.append {P : Program} {st xt e : TypeId} {xd : TypeDesc} {z by8 : Nat} {zv : Value} (hu : P.underlying st = some (.slice e)) (hux : P.underlying xt = some xd) (hxd : (∃ e2, xd = .slice e2) ∨ xd = .string) (hsz : sizeB P e = some z) (hby : bytesB P e = some by8) (hzv : zeroB P e = some zv) (hzl : Nat.beq zv.cells.toList.length z = true)
    {s : ASt} {x y : Value} {n m : Nat} {l new : List Value} (hx : Own s z x n l) (hy : srcCells s z y = some (m, new)) (hnew : new.length = m * z) (hz0 : 0 < z) (hok : new.all okCell = true) (hb1 : (n + m) * by8 ≤ 140737488355328) (hb2 : n + m ≤ 140737488355328) :
    ∃ x' s', appendA P s st xt x y = some (x', s') ∧ Own s' z x' (n + m) (l ++ new) ∧ Turns x s s' ∧ (idOf x' = idOf x ∨ ∃ i, idOf x' = some i ∧ s.next ≤ i) := by
  have hy : srcA s z by8 zv xd y = some (m, new) := by rcases hxd with ⟨e2, rfl⟩ | rfl <;> exact hy
  have hcond : (Nat.ble ((n + m) * by8) 140737488355328 && Nat.ble (n + m) 140737488355328 && Nat.blt 0 z && new.all okCell && Nat.beq zv.cells.toList.length z) = true := by
    simp only [Bool.and_eq_true, Nat.ble_eq, Nat.blt_eq]; exact ⟨⟨⟨⟨hb1, hb2⟩, hz0⟩, hok⟩, hzl⟩
  cases m with
  | zero =>
    have hn : new = [] := List.eq_nil_of_length_eq_zero (by simpa using hnew)
    subst hn
    refine ⟨x, s, ?_, by simpa using hx, ⟨Nat.le_refl _, fun _ _ _ => rfl⟩, .inl rfl⟩
    unfold appendA
    rcases hxd with ⟨e2, rfl⟩ | rfl <;>
    simp only [hu, hux, hsz, hby, hzv, hy]
    all_goals (cases hx <;> simp only [hcond, if_true])
  | succ m =>
    cases hx with
    | nil =>
      obtain ⟨h1, h2⟩ := Own.new (s := s) hnew
      refine ⟨_, _, ?_, by simpa using h2, ⟨by rw [next_new]; omega, fun i hi _ => (Stay.new s _).get i hi⟩, .inr ⟨s.next, rfl, Nat.le_refl _⟩⟩
      unfold appendA
      rcases hxd with ⟨e2, rfl⟩ | rfl <;>
      simp only [hu, hux, hsz, hby, hzv, hy, hcond, if_true, h1]
      all_goals simp
    | of i n low l hi hb hl hlen =>
      have hc1 : (true && Nat.ble low (l.length + 1) && Nat.beq z z) = true := by simp [hl]
      have hc2 : (Nat.beq (l.length + 1) (l.length + 1) && Nat.beq 0 0 && Nat.beq (n * z) l.length) = true := by simp [hlen]
      refine ⟨.slice (some ⟨i, 0, none⟩) (n + (m + 1)) ((l ++ new).length + 1), s.put i (.blk ⟨l ++ new, low, true, z⟩), ?_, ?_, ⟨by simp [ASt.put], fun j _ hj => ?_⟩, .inl rfl⟩
      · unfold appendA
        rcases hxd with ⟨e2, rfl⟩ | rfl <;>
        simp only [hu, hux, hsz, hby, hzv, hy, hcond, if_true, hb, hc1, hc2]
      · refine .of i _ low _ (by simpa [ASt.put] using hi) (by rw [ASt.blk?_put_self _ _ _ (by omega)]) (by rw [List.length_append]; omega) (by rw [List.length_append, hlen, hnew, Nat.add_mul n (m + 1) z])
      · rw [ASt.get_put_ne]
        intro e; subst e; exact hj rfl
theorem ofBytes_length (l : List UInt8) : (ofBytes l).length = l.length := by simp [ofBytes]
theorem ofBytes_getD {l : List UInt8} {i : Nat} (h : i < l.length) : (ofBytes l).getD i undef = .int .u8 ((l.getD i 0).toNat : Int) := by
  simp [ofBytes, List.getD, List.getElem?_eq_getElem h]
theorem ofBytes_append (a b : List UInt8) : ofBytes (a ++ b) = ofBytes a ++ ofBytes b := by simp [ofBytes]
theorem ofBytes_cons (a : UInt8) (b : List UInt8) : ofBytes (a :: b) = .int .u8 (a.toNat : Int) :: ofBytes b := rfl
theorem ofBytes_ok (l : List UInt8) : (ofBytes l).all okCell = true := by simp [ofBytes, okCell]
theorem valEq_elemPtr (z : Nat) (v : Value) (k : Nat) : valEq (elemPtr z v k) (elemPtr z v k) = true := by
  unfold elemPtr; split <;> exact valEq_pointer _
theorem valEq_cutS (z : Nat) (v : Value) (a b : Nat) : valEq (cutS z v a b) (cutS z v a b) = true := by
  unfold cutS; split <;> exact valEq_slice _ _ _
theorem Sees.self {s : ASt} {z : Nat} {v : Value} {n : Nat} {l : List Value} (h : Sees s z v n l) : valEq v v = true := by
  cases h <;> exact valEq_slice _ _ _
theorem Own.self {s : ASt} {z : Nat} {v : Value} {n : Nat} {l : List Value} (h : Own s z v n l) : valEq v v = true := h.sees.self
theorem Sees.sliceLow {P : Program} {t e : TypeId} {z : Nat} (hu : P.underlying t = some (.slice e)) (hsz : sizeB P e = some z) {s : ASt} {v : Value} {n : Nat} {l : List Value} (h : Sees s z v n l) {k : IntKind} {x : Int}
    (h0 : 0 ≤ x) (h2 : x ≤ n) : sliceA P s t v (some (.int k x)) none none = some (cutS z v x.toNat n) :=
  h.slice hu hsz (natOf_int h0) rfl (by omega) (by omega)
theorem Sees.sliceHigh {P : Program} {t e : TypeId} {z : Nat} (hu : P.underlying t = some (.slice e)) (hsz : sizeB P e = some z) {s : ASt} {v : Value} {n : Nat} {l : List Value} (h : Sees s z v n l) {k : IntKind} {y : Int}
    (h1 : 0 ≤ y) (h2 : y ≤ n) : sliceA P s t v none (some (.int k y)) none = some (cutS z v 0 y.toNat) :=
  h.slice hu hsz rfl (natOf_int (by omega)) (by omega) (by omega)
theorem Sees.cell1 {s : ASt} {z : Nat} {v : Value} {n : Nat} {l : List Value} (h : Sees s z v n l) : v.cells.toList = [v] := by cases h <;> rfl
theorem Sees.okCell {s : ASt} {z : Nat} {v : Value} {n : Nat} {l : List Value} (h : Sees s z v n l) : Cl.okCell v = true := by cases h <;> rfl
theorem Sees.turns {s s' : ASt} {z : Nat} {v u : Value} {n : Nat} {l : List Value} (h : Sees s z v n l) (k : Turns u s s') (hne : ∀ i, i < s.next → idOf v = some i → idOf u ≠ some i) : Sees s' z v n l := by
  cases h with
  | nil => exact .nil
  | bare => exact .bare _ _
  | of i off n c b l hi hb hz hl hc hlen hoff ht =>
    refine .of i off n c b l (Nat.lt_of_lt_of_le hi k.next) ?_ hz hl hc hlen hoff ht
    simp only [ASt.blk?, k.get i hi (hne i hi rfl)]; exact hb
structure Grown (x : Value) (s : ASt) (v : Value) (s' : ASt) : Prop where
  turns : Turns x s s'
  id : idOf v = idOf x ∨ ∃ i, idOf v = some i ∧ s.next ≤ i
theorem Grown.refl (x : Value) (s : ASt) : Grown x s x s := ⟨⟨Nat.le_refl _, fun _ _ _ => rfl⟩, .inl rfl⟩
theorem Grown.trans {x y v : Value} {s s' s'' : ASt} (h : Grown x s y s') (k : Grown y s' v s'') : Grown x s v s'' := by
  refine ⟨⟨Nat.le_trans h.turns.next k.turns.next, fun i hi hne => ?_⟩, ?_⟩
  · rw [k.turns.get i (Nat.lt_of_lt_of_le hi h.turns.next) ?_, h.turns.get i hi hne]
    rcases h.id with e | ⟨j, e, hj⟩
    · rw [e]; exact hne
    · rw [e]; intro q; injection q with q; omega
  · rcases k.id with e | ⟨j, e, hj⟩
    · rcases h.id with e2 | ⟨j, e2, hj⟩
      · left; rw [e, e2]
      · right; exact ⟨j, by rw [e, e2], hj⟩
    · right; exact ⟨j, e, Nat.le_trans h.turns.next hj⟩
theorem Grown.stay {base : Nat} {x v : Value} {s s' : ASt} (h : Grown x s v s') (hf : Fresh base x) (hb : base ≤ s.next) : Stay base s s' := h.turns.keeps hf hb
theorem Grown.fresh {base : Nat} {x v : Value} {s s' : ASt} (h : Grown x s v s') (hf : Fresh base x) (hb : base ≤ s.next) : Fresh base v := fun i hi => by
  rcases h.id with e | ⟨j, e, hj⟩
  · exact hf i (by rw [← e]; exact hi)
  · rw [e] at hi; injection hi with hi; omega
theorem Grown.after {x v : Value} {s s1 s' : ASt} (k : Stay s.next s s1) (h : Grown x s1 v s') : Grown x s v s' := by
  refine ⟨⟨Nat.le_trans k.next h.turns.next, fun i hi hne => ?_⟩, h.id.imp (fun e => e) (fun ⟨i, a, b⟩ => ⟨i, a, Nat.le_trans k.next b⟩)⟩
  rw [h.turns.get i (Nat.lt_of_lt_of_le hi k.next) hne, k.get i hi]
theorem Own.idlt {s : ASt} {z : Nat} {v : Value} {n : Nat} {l : List Value} (h : Own s z v n l) : ∀ i, idOf v = some i → i < s.next := by
  cases h with
  | nil => intro i h; cases h
  | of i n low l hi hb hl hlen => intro j h; injection h with h; subst h; exact hi
def isNilS : Value → Bool
  | .slice none _ _ => true
  | _ => false
theorem Sees.eql_nil {P : Program} {t e : TypeId} (hu : P.underlying t = some (.slice e)) {s : ASt} {z : Nat} {v : Value} {n : Nat} {l : List Value} (h : Sees s z v n l) : binA P .eql t v (.slice none 0 0) = some (.bool (isNilS v)) := by
  cases h <;> simp [binA, nilEq, hu, isNilS]
theorem Sees.isNil {s : ASt} {z : Nat} {v : Value} {n : Nat} {l : List Value} (h : Sees s z v n l) (hn : isNilS v = true) : n = 0 ∧ l = [] ∧ v = .slice none 0 0 := by
  cases h with
  | nil => exact ⟨rfl, rfl, rfl⟩
  | bare => cases hn
  | of => cases hn
def Low (base : Nat) (s : ASt) (z : Nat) (v : Value) (n : Nat) (l : List Value) : Prop := ∀ s', Stay base s s' → Sees s' z v n l
theorem Low.sees {base : Nat} {s : ASt} {z : Nat} {v : Value} {n : Nat} {l : List Value} (h : Low base s z v n l) : Sees s z v n l := h s (Stay.refl _ _)
theorem Low.stay {base : Nat} {s s' : ASt} {z : Nat} {v : Value} {n : Nat} {l : List Value} (h : Low base s z v n l) (k : Stay base s s') : Low base s' z v n l := fun s'' k' => h s'' (k.trans k')
theorem Sees.low {s : ASt} {z : Nat} {v : Value} {n : Nat} {l : List Value} (h : Sees s z v n l) : Low s.next s z v n l := fun _ k => h.keeps k
theorem Low.up {base b2 : Nat} {s : ASt} {z : Nat} {v : Value} {n : Nat} {l : List Value} (h : Low base s z v n l) (hb : base ≤ b2) : Low b2 s z v n l := fun _ k => h _ (k.weaken hb)
theorem build0 {P : Program} {s : ASt} {t e : TypeId} {zv : Value} {z : Nat} (hu : P.underlying t = some (.slice e)) (hsz : sizeB P e = some z) (hz : zeroB P e = some zv) (hp : plainV zv = true) (hl : Nat.beq zv.cells.toList.length z = true) : buildSliceA P s t 0 [] = newSlice s [] 0 z := by
  unfold buildSliceA; rw [hu]; simp only [hsz, hz, hp, hl]; simp [repeatL, fillA]
end Go.Cl
namespace Go.Cl
def pureOp (o : Oper) : Bool :=
  match o.op with
  | .move _ | .assign _ | .pick _ _ _ | .build _ _ | .nilCheck _ | .binOp _ _ _ _ _ | .unOp _ _ _ | .fieldAddr _ _ _ | .field _ _ _ | .indexAddr _ _ _ | .index _ _ _ | .extract _ _ => true
  | _ => false
theorem pure_quiet {P : Program} {o : Oper} (h : pureOp o = true) : quietOp P o = true := by
  obtain ⟨dst, op, type, pos, after, guard⟩ := o
  cases op <;> simp_all [pureOp, quietOp]
theorem pure_look {P : Program} {o : Oper} (h : pureOp o = true) (f : AFr) : ∃ r : Option Value, ∀ s, aop P o f s = vOf s r := by
  obtain ⟨dst, op, type, pos, after, guard⟩ := o
  cases op <;> simp only [pureOp] at h <;> try (cases h; done)
  case move x => exact ⟨evalA f x, fun _ => rfl⟩
  case assign x => exact ⟨evalA f x, fun _ => rfl⟩
  case pick c a b =>
    refine ⟨match evalA f c, evalA f a, evalA f b with
      | some (.bool t), some u, some v => some (if t then u else v)
      | _, _, _ => none, fun s => ?_⟩
    rw [aop_pick]
    generalize evalA f c = X
    generalize evalA f a = Y
    generalize evalA f b = Z
    split <;> first | rfl | (split <;> first | rfl | (exfalso; simp_all))
  case build t ps =>
    refine ⟨match partsA f ps.toList with
      | some l => buildA P t l
      | none => none, fun s => ?_⟩
    rw [aop_build]
    generalize partsA f ps.toList = X
    cases X <;> rfl
  case nilCheck x =>
    refine ⟨match evalA f x with
      | some (.pointer (some a)) => some (.pointer (some a))
      | some (.func (.func g) as bs) => some (.func (.func g) as bs)
      | _ => none, fun s => ?_⟩
    rw [aop_nilCheck]
    generalize evalA f x = X
    split <;> first | rfl | (split <;> first | rfl | (exfalso; simp_all))
  case binOp op t x y t2 =>
    refine ⟨match evalA f x, evalA f y with
      | some u, some v => binA P op t u v
      | _, _ => none, fun s => ?_⟩
    rw [aop_binOp]
    generalize evalA f x = X
    generalize evalA f y = Y
    cases X <;> cases Y <;> rfl
  case unOp op t x =>
    refine ⟨match evalA f x with
      | some u => unA op u
      | none => none, fun s => ?_⟩
    rw [aop_unOp]
    generalize evalA f x = X
    cases X <;> rfl
  case fieldAddr t x i =>
    refine ⟨match evalA f x with
      | some u => fieldAddrA P t u i
      | none => none, fun s => ?_⟩
    rw [aop_fieldAddr]
    generalize evalA f x = X
    cases X <;> rfl
  case field t x i =>
    refine ⟨match evalA f x with
      | some u => fieldA P t u i
      | none => none, fun s => ?_⟩
    rw [aop_field]
    generalize evalA f x = X
    cases X <;> rfl
  case indexAddr t x y =>
    refine ⟨match evalA f x, evalA f y with
      | some u, some v => indexAddrA P t u v
      | _, _ => none, fun s => ?_⟩
    rw [aop_indexAddr]
    generalize evalA f x = X
    generalize evalA f y = Y
    cases X <;> cases Y <;> rfl
  case index t x y =>
    refine ⟨match evalA f x, evalA f y with
      | some u, some v => indexA P t u v
      | _, _ => none, fun s => ?_⟩
    rw [aop_index]
    generalize evalA f x = X
    generalize evalA f y = Y
    cases X <;> cases Y <;> rfl
  case extract x i =>
    refine ⟨match evalA f x with
      | some u => extractA u i
      | none => none, fun s => ?_⟩
    rw [aop_extract]
    generalize evalA f x = X
    cases X <;> rfl
theorem pure_any {P : Program} {o : Oper} (h : pureOp o = true) {f : AFr} {s t : ASt} {v : Value} {s' : ASt} (ha : aop P o f s = some (.val v s')) : aop P o f t = some (.val v t) := by
  obtain ⟨r, hr⟩ := pure_look (P := P) h f
  rw [hr] at ha
  cases r with
  | none => cases ha
  | some u =>
    rw [vOf_some] at ha
    injection ha with ha; injection ha with e _; subst e
    rw [hr]; rfl
def valloc (id : Nat) : Option AR → Option (Value × Blk)
  | some (.val v s1) =>
    match s1.blk? id with
    | some b => some (v, b)
    | none => none
  | _ => none
def wopsV (P : Program) (lib : Prims) (all : List Oper) : List Oper → Nat → AFr → ASt → (AFr → ASt → Prop) → Prop
  | [], _, f, T, Q => Q f T
  | o :: r, id, f, T, Q =>
    match wantedA all o f with
    | true =>
      match quietOp P o, allocOp P o with
      | true, _ =>
        match aop P o f T with
        | some (.val v _) => valEq v v = true ∧ wput f o.dst v fun f' => wopsV P lib all r id f' T Q
        | _ => False
      | false, true =>
        match valloc id (aop P o f ⟨.nil, id⟩) with
        | some (v, b) => wput f o.dst v fun f' => wopsV P lib all r (id + 1) f' (T.put id (.blk b)) Q
        | none => False
      | false, false =>
        match aop P o f T with
        | some (.val v T') => wput f o.dst v fun f' => wopsV P lib all r id f' T' Q
        | some (.call g args) => Runs P lib g args T fun v T' => wput f o.dst v fun f' => wopsV P lib all r id f' T' Q
        | none => False
    | false => wput f o.dst undef fun f' => wopsV P lib all r (if allocOp P o then id + 1 else id) f' T Q
def vlook (P : Program) (lib : Prims) (all r : List Oper) (id : Nat) (f : AFr) (T : ASt) (d : Option Tmp) (Q : AFr → ASt → Prop) : Option AR → Prop
  | some (.val v _) => valEq v v = true ∧ wput f d v fun f' => wopsV P lib all r id f' T Q
  | _ => False
def vmake (P : Program) (lib : Prims) (all r : List Oper) (id : Nat) (f : AFr) (T : ASt) (d : Option Tmp) (Q : AFr → ASt → Prop) : Option (Value × Blk) → Prop
  | some (v, b) => wput f d v fun f' => wopsV P lib all r (id + 1) f' (T.put id (.blk b)) Q
  | none => False
def vstep (P : Program) (lib : Prims) (all r : List Oper) (id : Nat) (f : AFr) (d : Option Tmp) (T : ASt) (Q : AFr → ASt → Prop) : Option AR → Prop
  | some (.val v T') => wput f d v fun f' => wopsV P lib all r id f' T' Q
  | some (.call g args) => Runs P lib g args T fun v T' => wput f d v fun f' => wopsV P lib all r id f' T' Q
  | none => False
def vcall (P : Program) (lib : Prims) (all r : List Oper) (id : Nat) (f : AFr) (d : Option Tmp) (Q : AFr → ASt → Prop) (v : Value) (T' : ASt) : Prop := wput f d v fun f' => wopsV P lib all r id f' T' Q
def vwant (P : Program) (lib : Prims) (all : List Oper) (o : Oper) (r : List Oper) (id : Nat) (f : AFr) (T : ASt) (Q : AFr → ASt → Prop) : Bool → Prop
  | true =>
    match quietOp P o, allocOp P o with
    | true, _ => vlook P lib all r id f T o.dst Q (aop P o f T)
    | false, true => vmake P lib all r id f T o.dst Q (valloc id (aop P o f ⟨.nil, id⟩))
    | false, false => vstep P lib all r id f o.dst T Q (aop P o f T)
  | false => wput f o.dst undef fun f' => wopsV P lib all r (if allocOp P o then id + 1 else id) f' T Q
section
variable (P : Program) (lib : Prims) (all : List Oper) (r : List Oper) (id : Nat) (f : AFr) (T : ASt) (Q : AFr → ASt → Prop)
theorem wopsV_nil : wopsV P lib all [] id f T Q = Q f T := by simp only [wopsV]
theorem wopsV_cons (o : Oper) : wopsV P lib all (o :: r) id f T Q = vwant P lib all o r id f T Q (wantedA all o f) := by
  simp only [wopsV]
  cases wantedA all o f with
  | false => rfl
  | true =>
    simp only [vwant]
    cases quietOp P o with
    | true =>
      simp only
      cases aop P o f T with
      | none => rfl
      | some a => cases a <;> rfl
    | false =>
      cases allocOp P o with
      | true =>
        simp only
        cases valloc id (aop P o f ⟨.nil, id⟩) with
        | none => rfl
        | some a => rfl
      | false =>
        simp only
        cases aop P o f T with
        | none => rfl
        | some a => cases a <;> rfl
theorem vwant_quiet (o : Oper) (h : quietOp P o = true) : vwant P lib all o r id f T Q true = vlook P lib all r id f T o.dst Q (aop P o f T) := by simp only [vwant, h]
theorem vwant_alloc (o : Oper) (h : quietOp P o = false) (h2 : allocOp P o = true) : vwant P lib all o r id f T Q true = vmake P lib all r id f T o.dst Q (valloc id (aop P o f ⟨.nil, id⟩)) := by simp only [vwant, h, h2]
theorem vwant_effect (o : Oper) (h : quietOp P o = false) (h2 : allocOp P o = false) : vwant P lib all o r id f T Q true = vstep P lib all r id f o.dst T Q (aop P o f T) := by simp only [vwant, h, h2]
variable (d : Option Tmp) (ty : TypeId) (ps : String) (af : Array Edge) (gd : Option (Nat × Bool))
theorem vwant_true (o : Oper) : vwant P lib all o r id f T Q true = bif quietOp P o then vlook P lib all r id f T o.dst Q (aop P o f T) else bif allocOp P o then vmake P lib all r id f T o.dst Q (valloc id (aop P o f ⟨.nil, id⟩)) else vstep P lib all r id f o.dst T Q (aop P o f T) := by
  cases hq : quietOp P o with
  | true => rw [vwant_quiet _ _ _ _ _ _ _ _ _ hq]; rfl
  | false =>
    cases ha : allocOp P o with
    | true => rw [vwant_alloc _ _ _ _ _ _ _ _ _ hq ha]; rfl
    | false => rw [vwant_effect _ _ _ _ _ _ _ _ _ hq ha]; rfl
theorem vwant_ite (o : Oper) : vwant P lib all o r id f T Q true = if quietOp P o = true then vlook P lib all r id f T o.dst Q (aop P o f T) else if allocOp P o = true then vmake P lib all r id f T o.dst Q (valloc id (aop P o f ⟨.nil, id⟩)) else vstep P lib all r id f o.dst T Q (aop P o f T) := by
  rw [vwant_true]
  cases quietOp P o <;> cases allocOp P o <;> rfl
theorem vwant_false_some (op : Op) (t : Tmp) : vwant P lib all ⟨some t, op, ty, ps, af, gd⟩ r id f T Q false = if t < f.n then wopsV P lib all r (bif allocOp P ⟨some t, op, ty, ps, af, gd⟩ then id + 1 else id) (f.put t undef) T Q else False := by
  unfold vwant; simp only; rw [wput_some]
  cases allocOp P ⟨some t, op, ty, ps, af, gd⟩ <;> rfl
theorem vwant_false_none (op : Op) : vwant P lib all ⟨none, op, ty, ps, af, gd⟩ r id f T Q false = wopsV P lib all r (bif allocOp P ⟨none, op, ty, ps, af, gd⟩ then id + 1 else id) f T Q := by
  unfold vwant; simp only; rw [wput_none]
  cases allocOp P ⟨none, op, ty, ps, af, gd⟩ <;> rfl
theorem vlook_val (t : Tmp) (v : Value) (s' : ASt) : vlook P lib all r id f T (some t) Q (some (.val v s')) = if valEq v v = true ∧ t < f.n then wopsV P lib all r id (f.put t v) T Q else False := by
  simp only [vlook, wput_some]
  by_cases h1 : valEq v v = true <;> by_cases h2 : t < f.n <;> simp [h1, h2]
theorem vstep_val (t : Tmp) (v : Value) (s' : ASt) : vstep P lib all r id f (some t) T Q (some (.val v s')) = if t < f.n then wopsV P lib all r id (f.put t v) s' Q else False := by
  simp only [vstep, wput_some]
theorem vstep_val_none (v : Value) (s' : ASt) : vstep P lib all r id f none T Q (some (.val v s')) = wopsV P lib all r id f s' Q := by
  simp only [vstep, wput_none]
theorem vstep_call (g : FuncId) (args : List Value) : vstep P lib all r id f d T Q (some (.call g args)) = Runs P lib g args T (vcall P lib all r id f d Q) := rfl
theorem vcall_some (t : Tmp) (v : Value) (s' : ASt) : vcall P lib all r id f (some t) Q v s' = if t < f.n then wopsV P lib all r id (f.put t v) s' Q else False := by
  simp only [vcall, wput_some]
theorem vcall_none (v : Value) (s' : ASt) : vcall P lib all r id f none Q v s' = wopsV P lib all r id f s' Q := rfl
end
theorem stages_head (P : Program) : ∀ (l : List Oper) (es : List Ev) (T : ASt), ∃ r, stagesOf P l es T = T :: r := by
  intro l
  induction l with
  | nil => intro es T; exact ⟨[], by cases es <;> rfl⟩
  | cons o l ih =>
    intro es T
    cases es with
    | nil => exact ⟨[], rfl⟩
    | cons e es =>
      simp only [stagesOf]
      split
      · exact ⟨_, rfl⟩
      · split
        · exact ⟨_, rfl⟩
        · exact ih es T
def effs (P : Program) : List Oper → Nat → Nat
  | [], _ => 0
  | _, 0 => 0
  | o :: r, n + 1 => if effectOp P o then effs P r n + 1 else effs P r n
theorem countP_before (P : Program) : ∀ (l : List Oper) (i n : Nat), countP (fun j => Nat.blt j (i + n)) P l i = effs P l n := by
  intro l
  induction l with
  | nil => intro i n; cases n <;> rfl
  | cons o l ih =>
    intro i n
    simp only [countP]
    cases n with
    | zero =>
      have h0 : ∀ (l : List Oper) (k : Nat), i ≤ k → countP (fun j => Nat.blt j (i + 0)) P l k = 0 := by
        intro l
        induction l with
        | nil => intro k _; rfl
        | cons p l ihl =>
          intro k hk
          have hb : Nat.blt k (i + 0) = false := by rw [← Bool.not_eq_true, Nat.blt_eq]; omega
          simp only [countP, hb, Bool.and_false, Bool.false_eq_true, if_false]
          exact ihl (k + 1) (by omega)
      have hb : Nat.blt i (i + 0) = false := by rw [← Bool.not_eq_true, Nat.blt_eq]; omega
      simp only [hb, Bool.and_false, Bool.false_eq_true, if_false, effs]
      exact h0 l (i + 1) (by omega)
    | succ n =>
      have hb : Nat.blt i (i + (n + 1)) = true := by rw [Nat.blt_eq]; omega
      have e : i + (n + 1) = (i + 1) + n := by omega
      simp only [hb, Bool.and_true, effs]
      rw [e, ih (i + 1) n]
theorem effs_append (P : Program) : ∀ (a b : List Oper), effs P (a ++ b) a.length = effs P a a.length := by
  intro a
  induction a with
  | nil => intro b; cases b <;> rfl
  | cons o a ih => intro b; simp only [List.cons_append, List.length_cons, effs]; rw [ih b]
theorem effs_snoc (P : Program) (o : Oper) : ∀ (a : List Oper), effs P (a ++ [o]) (a ++ [o]).length = if effectOp P o then effs P a a.length + 1 else effs P a a.length := by
  intro a
  induction a with
  | nil => rfl
  | cons p a ih => simp only [List.cons_append, List.length_cons, effs]; rw [ih]; split <;> split <;> rfl
theorem fill_append (p : Nat → Bool) : ∀ (a b : List (Nat × Nat × Blk)) (T : ASt), Cl.fill p T (a ++ b) = Cl.fill p (Cl.fill p T a) b := by
  intro a
  induction a with
  | nil => intro b T; rfl
  | cons x a ih =>
    intro b T
    obtain ⟨j, id, bk⟩ := x
    simp only [List.cons_append, Cl.fill]
    split
    · exact ih _ _
    · exact ih _ _
theorem fill_none (p : Nat → Bool) : ∀ (a : List (Nat × Nat × Blk)) (T : ASt), (∀ x ∈ a, p x.1 = false) → Cl.fill p T a = T := by
  intro a
  induction a with
  | nil => intro T _; rfl
  | cons x a ih =>
    intro T h
    obtain ⟨j, id, bk⟩ := x
    have hj : p j = false := h (j, id, bk) (List.mem_cons_self ..)
    simp only [Cl.fill, hj]
    exact ih T (fun y hy => h y (List.mem_cons_of_mem _ hy))
theorem fill_here (p : Nat → Bool) : ∀ (a : List (Nat × Nat × Blk)) (T : ASt), (∀ x ∈ a, T.heap.get x.2.1 ≠ none) → Cl.fill p T a = T := by
  intro a
  induction a with
  | nil => intro T _; rfl
  | cons x a ih =>
    intro T h
    obtain ⟨j, id, bk⟩ := x
    have hj : T.heap.get id ≠ none := h (j, id, bk) (List.mem_cons_self ..)
    simp only [Cl.fill]
    split
    · rename_i _ hn; exact absurd hn hj
    · exact ih T (fun y hy => h y (List.mem_cons_of_mem _ hy))
structure Stands (s0 : ASt) (K : Nat) (i id : Nat) (as : List (Nat × Nat × Blk)) (T U : ASt) : Prop where
  fill : ∀ p : Nat → Bool, (∀ x ∈ as, p x.1 = true) → Cl.fill p T as = U
  here : ∀ x ∈ as, U.heap.get x.2.1 ≠ none
  before : ∀ x ∈ as, x.1 < i
  lo : s0.next ≤ id
  free : ∀ k, id ≤ k → k < s0.next + K → U.heap.get k = none
  next : s0.next + K ≤ U.next
  keeps : Keeps s0 U
def spare (s : ASt) (k : Nat) : ASt := ⟨s.heap, s.next + k⟩
theorem spare_zero (s : ASt) : spare s 0 = s := rfl
theorem spare_next (s : ASt) (k : Nat) : (spare s k).next = s.next + k := rfl
theorem Stay.spare (s : ASt) (k : Nat) : Stay s.next s (spare s k) := ⟨by simp [Cl.spare], fun _ _ => rfl⟩
end Go.Cl
namespace Go.Cl
section
variable {P : Program} {lib : Prims} {all r : List Oper} {f : AFr} {s : ASt} {d : Option Tmp} {Q : AFr → ASt → Prop}
theorem wstep_newSlice {cs : List Value} {n z : Nat} (h : cs.length = n * z) (K : ∀ v s', Own s' z v n cs → Fresh s.next v → Stay s.next s s' → wstep P lib all r f s d Q (some (.val v s'))) : wstep P lib all r f s d Q (pOf (newSlice s cs n z)) := by
  obtain ⟨h1, h2⟩ := Own.new (s := s) h
  rw [h1, pOf_some]
  exact K _ _ h2 (fun i hi => by injection hi with hi; subst hi; exact Nat.le_refl _) (Stay.new s _)
theorem wstep_append {st xt e : TypeId} {xd : TypeDesc} {z by8 : Nat} {zv : Value} (hu : P.underlying st = some (.slice e)) (hux : P.underlying xt = some xd) (hxd : (∃ e2, xd = .slice e2) ∨ xd = .string) (hsz : sizeB P e = some z) (hby : bytesB P e = some by8) (hzv : zeroB P e = some zv) (hzl : Nat.beq zv.cells.toList.length z = true)
    {x y : Value} {n m : Nat} {l new : List Value} (hx : Own s z x n l) (hy : srcCells s z y = some (m, new)) (hnew : new.length = m * z) (hz0 : 0 < z) (hok : new.all okCell = true) (hb1 : (n + m) * by8 ≤ 140737488355328) (hb2 : n + m ≤ 140737488355328) {base : Nat} (hF : Fresh base x) (hB : base ≤ s.next)
    (K : ∀ x' s', Own s' z x' (n + m) (l ++ new) → Fresh base x' → Stay base s s' → Turns x s s' → (idOf x' = idOf x ∨ ∃ i, idOf x' = some i ∧ s.next ≤ i) → wstep P lib all r f s d Q (some (.val x' s'))) : wstep P lib all r f s d Q (pOf (appendA P s st xt x y)) := by
  obtain ⟨x', s', h1, h2, h3, h4⟩ := Own.append hu hux hxd hsz hby hzv hzl hx hy hnew hz0 hok hb1 hb2
  rw [h1, pOf_some]
  refine K _ _ h2 (fun i hi => ?_) (h3.keeps hF hB) h3 h4
  rcases h4 with h4 | ⟨j, hj, hl⟩
  · exact hF i (by rw [← h4]; exact hi)
  · rw [hj] at hi; injection hi with hi; omega
theorem wstep_append_lit {st e : TypeId} {z by8 : Nat} {zv : Value} (hu : P.underlying st = some (.slice e)) (hsz : sizeB P e = some z) (hby : bytesB P e = some by8) (hzv : zeroB P e = some zv) (hzl : Nat.beq zv.cells.toList.length z = true)
    {x : Value} {n m : Nat} {l new : List Value} {a b : Tmp} {ty : TypeId} {ps : String} {af : Array Edge} (hx : Own s z x n l) (hfa : f.get a = x) (hab : b ≠ a) (ha : a < f.n) (hb : b < f.n) (hnew : new.length = m * z) (hz0 : 0 < z) (hok : new.all okCell = true) (hb1 : (n + m) * by8 ≤ 140737488355328) (hb2 : n + m ≤ 140737488355328) {base : Nat} (hF : Fresh base x) (hB : base ≤ s.next)
    (K : ∀ bs x' s', Own s' z x' (n + m) (l ++ new) → Fresh base x' → Stay base s s' → Turns x s s' → (idOf x' = idOf x ∨ ∃ i, idOf x' = some i ∧ s.next ≤ i) → wstep P lib all r (f.put b bs) s' d Q (some (.val x' s'))) :
    wstep P lib all (⟨d, .call ⟨.builtin .append, #[.tmp a, .tmp b], #[st, st]⟩, ty, ps, af, none⟩ :: r) f s (some b) Q (pOf (newSlice s new m z)) := by
  refine wstep_newSlice hnew fun bs s1 h1 h2 h3 => ?_
  have hx1 := hx.keeps h3
  obtain ⟨x', s', g1, g2, g3, g4⟩ := Own.append hu hu (.inl ⟨e, rfl⟩) hsz hby hzv hzl hx1 h1.sees.src hnew hz0 hok hb1 hb2
  have g4' : idOf x' = idOf x ∨ ∃ i, idOf x' = some i ∧ s.next ≤ i := g4.imp id (fun ⟨i, a, b⟩ => ⟨i, a, Nat.le_trans h3.next b⟩)
  have g3' : Turns x s s' := ⟨Nat.le_trans h3.next g3.next, fun i hi hne => (g3.get i (Nat.lt_of_lt_of_le hi h3.next) hne).trans (h3.get i hi)⟩
  have hF' : Fresh base x' := fun i hi => by
    rcases g4' with h4 | ⟨j, hj, hl⟩
    · exact hF i (by rw [← h4]; exact hi)
    · rw [hj] at hi; injection hi with hi; omega
  have k := K bs x' s' g2 hF' (g3'.keeps hF hB) g3' g4'
  have e1 : evalAll (f.put b bs) [.tmp a, .tmp b] = some [x, bs] := by
    simp only [evalAll, evalA_tmp, n_put, ha, hb, if_true, get_put, hfa, if_neg hab]
  have e2 : aop P ⟨d, .call ⟨.builtin .append, #[.tmp a, .tmp b], #[st, st]⟩, ty, ps, af, none⟩ (f.put b bs) s1 = some (.val x' s') := by
    rw [aop_call_builtin, e1]
    simp only [builtin_append, g1, pOf_some]
  rw [wstep_val, if_pos hb, wops_cons, wanted_none, wwant_true, e2]
  exact k
theorem build1 {t e : TypeId} {k : IntKind} {a : Int} (hu : P.underlying t = some (.slice e)) (hsz : sizeB P e = some 1) (hz : zeroB P e = some (.int k 0)) : buildSliceA P s t 1 [(0, .int k a)] = newSlice s [.int k a] 1 1 := by
  unfold buildSliceA; rw [hu]; simp only [hsz, hz]; rfl
theorem buildV1 {t e : TypeId} {zv v : Value} (hu : P.underlying t = some (.slice e)) (hsz : sizeB P e = some 1) (hz : zeroB P e = some zv) (hpl : plainV zv = true) (hzl : ∃ w, zv.cells.toList = [w]) (hv : v.cells.toList = [v]) : buildSliceA P s t 1 [(0, v)] = newSlice s [v] 1 1 := by
  obtain ⟨w, hw⟩ := hzl
  unfold buildSliceA; rw [hu]; simp only [hsz, hz, hpl, hw, repeatL, fillA, hv, List.length_singleton]; rfl
end
structure Thing (s : ASt) (i : Nat) (cs : List Value) : Prop where
  lt : i < s.next
  blk : ∃ low z, s.blk? i = some ⟨cs, low, true, z⟩ ∧ low ≤ cs.length + 1
theorem Thing.keeps {s s' : ASt} {i : Nat} {cs : List Value} (h : Thing s i cs) (k : Stay s.next s s') : Thing s' i cs :=
  ⟨Nat.lt_of_lt_of_le h.lt k.next, by obtain ⟨low, z, h1, h2⟩ := h.blk; exact ⟨low, z, (k.blk h.lt).trans h1, h2⟩⟩
theorem Thing.turns {s s' : ASt} {i : Nat} {cs : List Value} {v : Value} (h : Thing s i cs) (k : Turns v s s') (hne : idOf v ≠ some i) : Thing s' i cs :=
  ⟨Nat.lt_of_lt_of_le h.lt k.next, by
    obtain ⟨low, z, h1, h2⟩ := h.blk
    refine ⟨low, z, ?_, h2⟩
    simp only [ASt.blk?, k.get i h.lt hne]; exact h1⟩
theorem Thing.load {P : Program} {e : TypeId} (hag : isAggB P e = some false) {s : ASt} {i : Nat} {cs : List Value} (h : Thing s i cs) {off c : Nat} (hc : c = cs.length + 1) (ho : off < cs.length) : loadA P s e (.pointer (some ⟨i, off, some c⟩)) = some (cs.getD off undef) := by
  obtain ⟨low, z, h1, h2⟩ := h.blk
  subst hc
  unfold loadA
  simp only [hag]
  rw [cellsAt_eq h1 h2 (Nat.le_refl _) (by omega)]
  have : (cs.drop off).take 1 = [cs.getD off undef] := by
    rw [List.take_one, List.head?_drop, List.getElem?_eq_getElem (by omega)]
    simp [List.getD, List.getElem?_eq_getElem (show off < cs.length by omega)]
  simp only [this]
theorem Thing.loadAll {P : Program} {e : TypeId} (hag : isAggB P e = some true) {s : ASt} {i : Nat} {cs : List Value} (hsz : sizeB P e = some cs.length) (h : Thing s i cs) {c : Nat} (hc : c = cs.length + 1) : loadA P s e (.pointer (some ⟨i, 0, some c⟩)) = some (.agg cs.toArray) := by
  obtain ⟨low, z, h1, h2⟩ := h.blk
  subst hc
  unfold loadA
  simp only [hag, hsz]
  rw [cellsAt_eq h1 h2 (Nat.le_refl _) (by omega)]
  simp
theorem setAt_eq : ∀ (l : List Value) (off : Nat) (vs : List Value), off + vs.length ≤ l.length → setAt l off vs = some (l.take off ++ vs ++ l.drop (off + vs.length)) := by
  intro l
  induction l with
  | nil => intro off vs h; cases vs with
    | nil => simp at h; subst h; simp [setAt]
    | cons v r => simp at h
  | cons c r ih =>
    intro off vs h
    cases off with
    | zero => 
      cases vs with
      | nil => simp [setAt]
      | cons v vs =>
        simp only [setAt]
        rw [ih 0 vs (by simpa using h)]
        simp
    | succ n =>
      cases vs with
      | nil => simp [setAt]
      | cons v vs =>
        simp only [setAt]
        rw [ih n (v :: vs) (by simp at h ⊢; omega)]
        simp only [List.length_cons, List.take_succ_cons, List.cons_append, show n + 1 + (vs.length + 1) = (n + (vs.length + 1)) + 1 by omega, List.drop_succ_cons]
theorem Thing.store {P : Program} {e : TypeId} (hsz : sizeB P e = some 1) {s : ASt} {i : Nat} {cs : List Value} (h : Thing s i cs) {off c : Nat} (hc : c = cs.length + 1) (ho : off < cs.length) {v : Value} (hv : okCell v = true) :
    ∃ s', storeA P s e (.pointer (some ⟨i, off, some c⟩)) v = some s' ∧ Thing s' i (cs.set off v) ∧ (s'.next = s.next ∧ ∀ j, j ≠ i → s'.heap.get j = s.heap.get j) := by
  obtain ⟨low, z, h1, h2⟩ := h.blk
  subst hc
  have hcells : v.cells.toList = [v] := by cases v <;> first | rfl | cases hv
  refine ⟨s.put i (.blk ⟨cs.set off v, cs.length + 1, true, z⟩), ?_, ⟨h.lt, cs.length + 1, z, ?_, by simp⟩, rfl, fun j hj => ASt.get_put_ne _ _ _ _ (Ne.symm hj)⟩
  · unfold storeA
    simp only [hsz, hcells, List.length_singleton]
    unfold ASt.storeAt
    have hset : setAt cs off [v] = some (cs.set off v) := by
      rw [setAt_eq _ _ _ (by simp; omega)]
      rw [List.set_eq_take_append_cons_drop, if_pos ho]
      simp
    have hcond : (true && Nat.ble low (cs.length + 1) && Nat.beq (cs.length + 1) (cs.length + 1) && [v].all okCell) = true := by
      simp [h2, hv]
    simp only [h1, hcond, if_true, hset]
    rfl
  · exact ASt.blk?_put_self _ _ _ (by omega)
section
variable {P : Program} {lib : Prims} {all r : List Oper} {f : AFr} {s : ASt} {d : Option Tmp} {Q : AFr → ASt → Prop}
theorem wstep_store {e : TypeId} (hsz : sizeB P e = some 1) {i : Nat} {cs : List Value} (h : Thing s i cs) {off c : Nat} (hc : c = cs.length + 1) (ho : off < cs.length) {v : Value} (hv : okCell v = true)
    (K : ∀ s', Thing s' i (cs.set off v) → s'.next = s.next → (∀ j, j ≠ i → s'.heap.get j = s.heap.get j) → wstep P lib all r f s d Q (some (.val undef s'))) : wstep P lib all r f s d Q (uOf (storeA P s e (.pointer (some ⟨i, off, some c⟩)) v)) := by
  obtain ⟨s', h1, h2, h3, h4⟩ := h.store hsz hc ho hv
  rw [h1, uOf_some]
  exact K s' h2 h3 h4
theorem wstep_newPtr {cs : List Value} {z : Nat} (K : ∀ s', Thing s' s.next cs → Stay s.next s s' → s'.next = s.next + 1 → wstep P lib all r f s d Q (some (.val (.pointer (some ⟨s.next, 0, some (cs.length + 1)⟩)) s'))) : wstep P lib all r f s d Q (pOf (newPtr s cs z)) := by
  have : newPtr s cs z = some (.pointer (some ⟨s.next, 0, some (cs.length + 1)⟩), s.new (.blk ⟨cs, 1, true, z⟩)) := by simp [newPtr, ASt.room]
  rw [this, pOf_some]
  exact K _ ⟨by rw [next_new]; omega, 1, z, blk_new _ _, by omega⟩ (Stay.new _ _) rfl
end
theorem Turns.ofPut {s s' : ASt} {i o : Nat} {c : Option Nat} (h1 : s'.next = s.next) (h2 : ∀ j, j ≠ i → s'.heap.get j = s.heap.get j) : Turns (.pointer (some ⟨i, o, c⟩)) s s' :=
  ⟨by omega, fun j _ hj => h2 j (fun e => hj (by rw [e]; rfl))⟩
theorem Stay.ofPut {s s' : ASt} {i base : Nat} (h1 : s'.next = s.next) (h2 : ∀ j, j ≠ i → s'.heap.get j = s.heap.get j) (hb : base ≤ i) : Stay base s s' :=
  ⟨by omega, fun j hj => h2 j (by omega)⟩
theorem Own.ofPut {s s' : ASt} {i : Nat} (h1 : s'.next = s.next) (h2 : ∀ j, j ≠ i → s'.heap.get j = s.heap.get j) {z : Nat} {v : Value} {n : Nat} {l : List Value} (h : Own s z v n l) (hne : idOf v ≠ some i) : Own s' z v n l :=
  h.turns (Turns.ofPut (o := 0) (c := none) h1 h2) (fun j hj e => hne (by rw [hj]; injection e with e; rw [← e]))
theorem Sees.ofPut {s s' : ASt} {i : Nat} (h1 : s'.next = s.next) (h2 : ∀ j, j ≠ i → s'.heap.get j = s.heap.get j) {z : Nat} {v : Value} {n : Nat} {l : List Value} (h : Sees s z v n l) (hne : idOf v ≠ some i) : Sees s' z v n l := by
  cases h with
  | nil => exact .nil
  | bare => exact .bare _ _
  | of j off n c b l hi hb hz hl hc hlen hoff ht =>
    refine .of j off n c b l (by omega) ?_ hz hl hc hlen hoff ht
    simp only [ASt.blk?, h2 j (fun e => hne (by rw [e]; rfl))]; exact hb
theorem Own.put {P : Program} {e : TypeId} (hsz : sizeB P e = some 1) {s : ASt} {v : Value} {n : Nat} {l : List Value} (h : Own s 1 v n l) {k : Nat} (hk : k < n) {w : Value} (hw : okCell w = true) :
    ∃ s', storeA P s e (elemPtr 1 v k) w = some s' ∧ Own s' 1 v n (l.set k w) ∧ Turns v s s' := by
  cases h with
  | nil => omega
  | of i n low l hi hb hl hlen =>
    have hlen' : l.length = n := by omega
    have hth : Thing s i l := ⟨hi, low, 1, hb, hl⟩
    obtain ⟨s', h1, h2, h3, h4⟩ := hth.store hsz (off := k) (c := l.length + 1) rfl (by omega) hw
    have hb' : s'.blk? i = some ⟨l.set k w, l.length + 1, true, 1⟩ := by
      have hcells : w.cells.toList = [w] := by cases w <;> first | rfl | cases hw
      unfold storeA at h1
      simp only [hsz, hcells, List.length_singleton] at h1
      unfold ASt.storeAt at h1
      have hset : setAt l k [w] = some (l.set k w) := by
        rw [setAt_eq _ _ _ (by simp; omega)]
        rw [List.set_eq_take_append_cons_drop, if_pos (by omega)]
        simp
      have hcond : (true && Nat.ble low (l.length + 1) && Nat.beq (l.length + 1) (l.length + 1) && [w].all okCell) = true := by
        simp [hl, hw]
      simp only [hb, hcond, if_true, hset] at h1
      have h1' : some (s.put i (.blk ⟨l.set k w, l.length + 1, true, 1⟩)) = some s' := h1
      injection h1' with h1'
      rw [← h1']; exact ASt.blk?_put_self _ _ _ (by omega)
    refine ⟨s', ?_, ?_, ⟨by omega, fun j _ hj => h4 j (fun e => hj (by rw [e]; rfl))⟩⟩
    · simpa [elemPtr] using h1
    · have := Own.of (z := 1) i n (l.length + 1) (l.set k w) h2.lt hb' (by simp) (by simp [hlen])
      simpa using this
section
variable {P : Program} {lib : Prims} {all r : List Oper} {id : Nat} {f : AFr} {T : ASt} {d : Option Tmp} {Q : AFr → ASt → Prop}
end
theorem allW : type_of%
  (And.intro (And.intro (And.intro (And.intro (And.intro (And.intro (And.intro @wcode_skip @wcode_region) (And.intro @wcode_draw (And.intro @wdraw_true
  @wcode_seq))) (And.intro (And.intro @wthen_normal (And.intro @wthen_ret @wthen_exit)) (And.intro @wcode_cond (And.intro @wcond_bool @wif_true)))) (And.intro
  (And.intro (And.intro @wif_false (And.intro @wcode_block @wblk_normal)) (And.intro @wblk_ret (And.intro @wblk_exit @wcode_loop))) (And.intro (And.intro
  @wcode_exit (And.intro @wcode_scope @wcode_ret)) (And.intro @wops_nil (And.intro @wops_cons @wwant_true))))) (And.intro (And.intro (And.intro (And.intro
  @wput_some @wstep_val) (And.intro @wstep_val_none (And.intro @wstep_call @wcall_some))) (And.intro (And.intro @wcall_none (And.intro @wquiet_nil @wquiet_cons))
  (And.intro @wasks_true (And.intro @wasks_false_some @wwant_false_some)))) (And.intro (And.intro (And.intro @wwant_false_none (And.intro @wlook_val @wopsV_nil))
  (And.intro @wopsV_cons (And.intro @vwant_ite @vwant_false_some))) (And.intro (And.intro @vwant_false_none (And.intro @vlook_val @vstep_val)) (And.intro
  @vstep_val_none (And.intro @vstep_call @vcall_some)))))) (And.intro (And.intro (And.intro (And.intro (And.intro @vcall_none @quiet_call) (And.intro
  @quiet_buildSlice (And.intro @quiet_build @quiet_store))) (And.intro (And.intro @quiet_box (And.intro @quiet_alloc @quiet_makeSlice)) (And.intro @quiet_append
  (And.intro @quiet_copy @quiet_min)))) (And.intro (And.intro (And.intro @quiet_max (And.intro @alloc_buildSlice @alloc_store)) (And.intro @alloc_box (And.intro
  @alloc_alloc @alloc_makeSlice))) (And.intro (And.intro @alloc_call (And.intro @alloc_convert @alloc_move)) (And.intro @alloc_assign (And.intro @alloc_pick
  @alloc_load))))) (And.intro (And.intro (And.intro (And.intro @alloc_nilCheck (And.intro @alloc_binOp @alloc_unOp)) (And.intro @alloc_indexAddr (And.intro
  @alloc_index @alloc_fieldAddr))) (And.intro (And.intro @alloc_field (And.intro @alloc_slice @alloc_extract)) (And.intro @Bool.false_and (And.intro
  @Bool.and_false @wround_ret)))) (And.intro (And.intro (And.intro @wround_exit (And.intro @wres_some @resultsA_nil)) (And.intro @resultsA_tmp (And.intro @aop_move
  @aop_assign))) (And.intro (And.intro @aop_pick (And.intro @aop_alloc @aop_box)) (And.intro @aop_build (And.intro @aop_buildSlice @aop_load))))))) (And.intro
  (And.intro (And.intro (And.intro (And.intro (And.intro @aop_store @aop_nilCheck) (And.intro @aop_binOp (And.intro @aop_unOp @aop_convert))) (And.intro (And.intro
  @aop_makeMap (And.intro @aop_makeSlice @aop_slice)) (And.intro @aop_fieldAddr (And.intro @aop_field @aop_indexAddr)))) (And.intro (And.intro (And.intro
  @aop_index (And.intro @aop_lookup @aop_mapUpdate)) (And.intro @aop_extract (And.intro @aop_call_value @aop_call_builtin))) (And.intro (And.intro @wanted_none
  (And.intro @wanted_some @yieldA_eq)) (And.intro @yieldOf_cons (And.intro @get_put @n_put))))) (And.intro (And.intro (And.intro (And.intro @evalA_tmp @evalA_bool)
  (And.intro @evalA_int (And.intro @evalA_string @evalA_snil))) (And.intro (And.intro @evalA_pnil (And.intro @evalA_mnil @evalA_func)) (And.intro @cells_agg
  (And.intro @vOf_some @pOf_some)))) (And.intro (And.intro (And.intro @uOf_some (And.intro @builtin_len @builtin_append)) (And.intro @builtin_copy (And.intro
  @builtin_min @builtin_max))) (And.intro (And.intro @bin_add (And.intro @bin_sub @bin_mul)) (And.intro @bin_eql (And.intro @bin_neq @bin_lss)))))) (And.intro
  (And.intro (And.intro (And.intro (And.intro @bin_leq @bin_gtr) (And.intro @bin_geq (And.intro @un_not @un_neg))) (And.intro (And.intro @valEq_bool (And.intro
  @valEq_int @valEq_string)) (And.intro @valEq_pointer (And.intro @valEq_slice @valEq_elemPtr)))) (And.intro (And.intro (And.intro @valEq_cutS (And.intro
  @allQuiet_nil @allQuiet_cons)) (And.intro @quiet_move (And.intro @quiet_assign @quiet_pick))) (And.intro (And.intro @quiet_load (And.intro @quiet_binOp
  @quiet_unOp)) (And.intro @quiet_indexAddr (And.intro @quiet_index @quiet_len))))) (And.intro (And.intro (And.intro (And.intro @quiet_fieldAddr (And.intro
  @quiet_field @quiet_slice)) (And.intro @quiet_nilCheck (And.intro @quiet_extract @quiet_convert))) (And.intro (And.intro @natOf_none (And.intro @Nat.zero_add
  @true_and)) (And.intro @and_true (And.intro @and_self @Bool.and_true)))) (And.intro (And.intro (And.intro @Bool.true_and (And.intro @decide_true @decide_false))
  (And.intro @Bool.false_eq_true (And.intro @beq_true @beq_false))) (And.intro (And.intro @Bool.not_true (And.intro @Bool.not_false @Int.toNat_natCast)) (And.intro
  @Int.ofNat_lt (And.intro @Int.ofNat_le @Int.natCast_inj)))))))) :=
  (And.intro (And.intro (And.intro (And.intro (And.intro (And.intro (And.intro @wcode_skip @wcode_region) (And.intro @wcode_draw (And.intro @wdraw_true
  @wcode_seq))) (And.intro (And.intro @wthen_normal (And.intro @wthen_ret @wthen_exit)) (And.intro @wcode_cond (And.intro @wcond_bool @wif_true)))) (And.intro
  (And.intro (And.intro @wif_false (And.intro @wcode_block @wblk_normal)) (And.intro @wblk_ret (And.intro @wblk_exit @wcode_loop))) (And.intro (And.intro
  @wcode_exit (And.intro @wcode_scope @wcode_ret)) (And.intro @wops_nil (And.intro @wops_cons @wwant_true))))) (And.intro (And.intro (And.intro (And.intro
  @wput_some @wstep_val) (And.intro @wstep_val_none (And.intro @wstep_call @wcall_some))) (And.intro (And.intro @wcall_none (And.intro @wquiet_nil @wquiet_cons))
  (And.intro @wasks_true (And.intro @wasks_false_some @wwant_false_some)))) (And.intro (And.intro (And.intro @wwant_false_none (And.intro @wlook_val @wopsV_nil))
  (And.intro @wopsV_cons (And.intro @vwant_ite @vwant_false_some))) (And.intro (And.intro @vwant_false_none (And.intro @vlook_val @vstep_val)) (And.intro
  @vstep_val_none (And.intro @vstep_call @vcall_some)))))) (And.intro (And.intro (And.intro (And.intro (And.intro @vcall_none @quiet_call) (And.intro
  @quiet_buildSlice (And.intro @quiet_build @quiet_store))) (And.intro (And.intro @quiet_box (And.intro @quiet_alloc @quiet_makeSlice)) (And.intro @quiet_append
  (And.intro @quiet_copy @quiet_min)))) (And.intro (And.intro (And.intro @quiet_max (And.intro @alloc_buildSlice @alloc_store)) (And.intro @alloc_box (And.intro
  @alloc_alloc @alloc_makeSlice))) (And.intro (And.intro @alloc_call (And.intro @alloc_convert @alloc_move)) (And.intro @alloc_assign (And.intro @alloc_pick
  @alloc_load))))) (And.intro (And.intro (And.intro (And.intro @alloc_nilCheck (And.intro @alloc_binOp @alloc_unOp)) (And.intro @alloc_indexAddr (And.intro
  @alloc_index @alloc_fieldAddr))) (And.intro (And.intro @alloc_field (And.intro @alloc_slice @alloc_extract)) (And.intro @Bool.false_and (And.intro
  @Bool.and_false @wround_ret)))) (And.intro (And.intro (And.intro @wround_exit (And.intro @wres_some @resultsA_nil)) (And.intro @resultsA_tmp (And.intro @aop_move
  @aop_assign))) (And.intro (And.intro @aop_pick (And.intro @aop_alloc @aop_box)) (And.intro @aop_build (And.intro @aop_buildSlice @aop_load))))))) (And.intro
  (And.intro (And.intro (And.intro (And.intro (And.intro @aop_store @aop_nilCheck) (And.intro @aop_binOp (And.intro @aop_unOp @aop_convert))) (And.intro (And.intro
  @aop_makeMap (And.intro @aop_makeSlice @aop_slice)) (And.intro @aop_fieldAddr (And.intro @aop_field @aop_indexAddr)))) (And.intro (And.intro (And.intro
  @aop_index (And.intro @aop_lookup @aop_mapUpdate)) (And.intro @aop_extract (And.intro @aop_call_value @aop_call_builtin))) (And.intro (And.intro @wanted_none
  (And.intro @wanted_some @yieldA_eq)) (And.intro @yieldOf_cons (And.intro @get_put @n_put))))) (And.intro (And.intro (And.intro (And.intro @evalA_tmp @evalA_bool)
  (And.intro @evalA_int (And.intro @evalA_string @evalA_snil))) (And.intro (And.intro @evalA_pnil (And.intro @evalA_mnil @evalA_func)) (And.intro @cells_agg
  (And.intro @vOf_some @pOf_some)))) (And.intro (And.intro (And.intro @uOf_some (And.intro @builtin_len @builtin_append)) (And.intro @builtin_copy (And.intro
  @builtin_min @builtin_max))) (And.intro (And.intro @bin_add (And.intro @bin_sub @bin_mul)) (And.intro @bin_eql (And.intro @bin_neq @bin_lss)))))) (And.intro
  (And.intro (And.intro (And.intro (And.intro @bin_leq @bin_gtr) (And.intro @bin_geq (And.intro @un_not @un_neg))) (And.intro (And.intro @valEq_bool (And.intro
  @valEq_int @valEq_string)) (And.intro @valEq_pointer (And.intro @valEq_slice @valEq_elemPtr)))) (And.intro (And.intro (And.intro @valEq_cutS (And.intro
  @allQuiet_nil @allQuiet_cons)) (And.intro @quiet_move (And.intro @quiet_assign @quiet_pick))) (And.intro (And.intro @quiet_load (And.intro @quiet_binOp
  @quiet_unOp)) (And.intro @quiet_indexAddr (And.intro @quiet_index @quiet_len))))) (And.intro (And.intro (And.intro (And.intro @quiet_fieldAddr (And.intro
  @quiet_field @quiet_slice)) (And.intro @quiet_nilCheck (And.intro @quiet_extract @quiet_convert))) (And.intro (And.intro @natOf_none (And.intro @Nat.zero_add
  @true_and)) (And.intro @and_true (And.intro @and_self @Bool.and_true)))) (And.intro (And.intro (And.intro @Bool.true_and (And.intro @decide_true @decide_false))
  (And.intro @Bool.false_eq_true (And.intro @beq_true @beq_false))) (And.intro (And.intro @Bool.not_true (And.intro @Bool.not_false @Int.toNat_natCast)) (And.intro
  @Int.ofNat_lt (And.intro @Int.ofNat_le @Int.natCast_inj))))))))
theorem allR : type_of% (And.intro @cond_true.{1} (And.intro @cond_false.{1} (And.intro @List.drop_zero.{0} (And.intro @List.drop_succ_cons.{0} (And.intro @List.cons_append.{0} (And.intro @List.nil_append.{0} (And.intro @List.getD_cons_zero.{0} (And.intro @List.getD_cons_succ.{0} (And.intro @List.set_cons_zero.{0} (And.intro @List.set_cons_succ.{0} (And.intro @if_true.{1} (And.intro @if_false.{1} (And.intro @beq_self_eq_true.{0} (And.intro @ne_eq.{1} (And.intro @eq_self.{1} (And.intro @not_true_eq_false @not_false_eq_true)))))))))))))))) := (And.intro @cond_true.{1} (And.intro @cond_false.{1} (And.intro @List.drop_zero.{0} (And.intro @List.drop_succ_cons.{0} (And.intro @List.cons_append.{0} (And.intro @List.nil_append.{0} (And.intro @List.getD_cons_zero.{0} (And.intro @List.getD_cons_succ.{0} (And.intro @List.set_cons_zero.{0} (And.intro @List.set_cons_succ.{0} (And.intro @if_true.{1} (And.intro @if_false.{1} (And.intro @beq_self_eq_true.{0} (And.intro @ne_eq.{1} (And.intro @eq_self.{1} (And.intro @not_true_eq_false @not_false_eq_true))))))))))))))))
end Go.Cl
namespace Go.Cl
def cutOp (o : Oper) : Bool :=
  match o.op with
  | .slice _ _ _ _ _ => true
  | .load _ _ => true
  | .call ⟨.builtin .len, _, _⟩ => true
  | _ => false
def calmOp (o : Oper) : Bool := pureOp o || cutOp o
def lowV (b : Nat) : Option Value → Bool
  | some (.slice (some a) _ c) => Nat.blt a.block b || Nat.beq c 0
  | some (.slice none _ _) => true
  | some (.string _) => true
  | some (.pointer (some a)) => Nat.blt a.block b
  | _ => false
def lowL : Option (List Value) → Bool
  | some [.slice _ _ _] => true
  | some [.string _] => true
  | _ => false
def lowO (o : Oper) (f : AFr) (b : Nat) : Bool :=
  match o.op with
  | .slice _ x _ _ _ => lowV b (evalA f x)
  | .load _ x => lowV b (evalA f x)
  | .call ⟨.builtin .len, args, _⟩ => lowL (evalAll f args.toList)
  | _ => true
theorem sliceA_low {P : Program} {s t : ASt} {b : Nat} (h : Stay b s t) {ty : TypeId} {u : Value} {lo hi mx : Option Value} (hl : lowV b (some u) = true) : sliceA P s ty u lo hi mx = sliceA P t ty u lo hi mx := by
  unfold sliceA
  generalize P.underlying ty = U
  have ee : ∀ i c, (i < b ∨ c = 0) → ∀ z, eszIs s i c z = eszIs t i c z := fun i c hi z => by
    unfold eszIs
    cases c with
    | zero => rfl
    | succ c => simp only [ASt.blk?, h.get i (hi.resolve_right (by omega))]
  cases U with
  | none => rfl
  | some D =>
    cases u with
    | slice a n c =>
      cases a with
      | none => cases D <;> rfl
      | some a =>
        obtain ⟨i, off, sp⟩ := a
        have hi : i < b ∨ c = 0 := by simpa [lowV, Nat.blt_eq] using hl
        cases sp with
        | none => cases D <;> simp only [ee i c hi]
        | some k => cases D <;> rfl
    | string x => cases D <;> rfl
    | pointer a =>
      cases a with
      | none => simp [lowV] at hl
      | some a =>
        obtain ⟨i, off, sp⟩ := a
        have hi : i < b := by simpa [lowV, Nat.blt_eq] using hl
        have hb : s.blk? i = t.blk? i := by simp only [ASt.blk?, h.get i hi]
        cases sp with
        | none => cases D <;> rfl
        | some k => cases D <;> simp only [hb]
    | _ => simp [lowV] at hl
theorem loadA_low {P : Program} {s t : ASt} {b : Nat} (h : Stay b s t) {ty : TypeId} {u : Value} (hl : lowV b (some u) = true) : loadA P s ty u = loadA P t ty u := by
  unfold loadA
  cases u with
  | pointer a =>
    cases a with
    | none => rfl
    | some a =>
      obtain ⟨i, off, sp⟩ := a
      have hi : i < b := by simpa [lowV, Nat.blt_eq] using hl
      have hb : ∀ off c n, s.cellsAt i off c n = t.cellsAt i off c n := fun off c n => by simp only [ASt.cellsAt, ASt.blk?, h.get i hi]
      cases sp with
      | none => rfl
      | some k => simp only [hb]
  | _ => rfl
theorem lenA_low {P : Program} {s t : ASt} {ty : TypeId} {u : Value} (hl : lowL (some [u]) = true) : lenA P s ty u = lenA P t ty u := by
  unfold lenA
  generalize P.underlying ty = U
  cases U with
  | none => rfl
  | some D =>
    cases u with
    | slice a n c => cases D <;> rfl
    | string x => cases D <;> rfl
    | _ => simp [lowL] at hl
theorem calm_any {P : Program} {o : Oper} {b : Nat} {s0 : ASt} (h : calmOp o = true) {f : AFr} {s t : ASt} (hl : lowO o f b = true) (hs : Stay b s0 s) (ht : Stay b s0 t) {v : Value} {s' : ASt} (ha : aop P o f s = some (.val v s')) : aop P o f t = some (.val v t) := by
  cases hp : pureOp o with
  | true => exact pure_any hp ha
  | false =>
    simp only [calmOp, hp, Bool.false_or] at h
    obtain ⟨dst, op, type, pos, after, guard⟩ := o
    have htrans : ∀ {r1 r2 : Option Value}, r1 = r2 → vOf s r1 = some (.val v s') → vOf t r2 = some (.val v t) := by
      intro r1 r2 e hv
      subst e
      cases r1 with
      | none => cases hv
      | some w =>
        rw [vOf_some] at hv
        injection hv with hv; injection hv with hv _; subst hv; rfl
    cases op <;> simp only [cutOp] at h <;> try (cases h; done)
    case slice ty x lo hi mx =>
      rw [aop_slice] at ha ⊢
      simp only [lowO] at hl
      split at ha
      · rename_i u l hh m hu h2 h3 h4
        rw [hu] at hl
        have e1 := sliceA_low (P := P) hs (ty := ty) (lo := l) (hi := hh) (mx := m) hl
        have e2 := sliceA_low (P := P) ht (ty := ty) (lo := l) (hi := hh) (mx := m) hl
        exact htrans (by rw [← e1, ← e2]) ha
      · cases ha
    case load ty x =>
      rw [aop_load] at ha ⊢
      simp only [lowO] at hl
      split at ha
      · rename_i u hu
        rw [hu] at hl
        have e1 := loadA_low (P := P) hs (ty := ty) hl
        have e2 := loadA_low (P := P) ht (ty := ty) hl
        exact htrans (by rw [← e1, ← e2]) ha
      · cases ha
    case call cl =>
      obtain ⟨callee, args, ts⟩ := cl
      cases callee with
      | builtin bi =>
        cases bi <;> simp only at h <;> try (cases h; done)
        simp only [lowO] at hl
        rw [aop_call_builtin] at ha ⊢
        cases hev : evalAll f args.toList with
        | none => rw [hev] at hl; simp [lowL] at hl
        | some vs =>
          rw [hev] at hl ha
          match vs, hl with
          | [u], hl =>
            simp only at ha ⊢
            unfold builtinA at ha ⊢
            split at ha <;> rename_i hts <;> simp_all
            rw [← lenA_low (P := P) (s := s) (t := t) hl]; exact htrans ha
          | [], hl => simp [lowL] at hl
          | a :: b :: r, hl => cases a <;> simp [lowL] at hl
      | _ => simp at h
theorem fill_stay (p : Nat → Bool) (b : Nat) : ∀ (as : List (Nat × Nat × Blk)) (T : ASt), (∀ x ∈ as, b ≤ x.2.1) → Stay b T (Cl.fill p T as) := by
  intro as
  induction as with
  | nil => intro T _; exact Stay.refl _ _
  | cons x as ih =>
    intro T h
    obtain ⟨j, id, bk⟩ := x
    have hid : b ≤ id := h (j, id, bk) (List.mem_cons_self ..)
    have hr := fun y hy => h y (List.mem_cons_of_mem _ hy)
    simp only [Cl.fill]
    split
    · exact Stay.trans (s' := T.put id (.blk bk)) ⟨Nat.le_refl _, fun i hi => ASt.get_put_ne _ _ _ _ (by omega)⟩ (ih _ hr)
    · exact ih _ hr
def wopsS (P : Program) (lib : Prims) (b : Nat) (all : List Oper) : List Oper → Nat → AFr → ASt → (AFr → ASt → Prop) → Prop
  | [], _, f, T, Q => Q f T
  | o :: r, id, f, T, Q =>
    match wantedA all o f with
    | true =>
      match quietOp P o, allocOp P o with
      | true, _ =>
        match aop P o f T with
        | some (.val v _) => lowO o f b = true ∧ valEq v v = true ∧ wput f o.dst v fun f' => wopsS P lib b all r id f' T Q
        | _ => False
      | false, true =>
        match valloc id (aop P o f ⟨.nil, id⟩) with
        | some (v, bl) => wput f o.dst v fun f' => wopsS P lib b all r (id + 1) f' (T.put id (.blk bl)) Q
        | none => False
      | false, false =>
        match aop P o f T with
        | some (.val v T') => Stay b T T' ∧ wput f o.dst v fun f' => wopsS P lib b all r id f' T' Q
        | some (.call g args) => Runs P lib g args T fun v T' => Stay b T T' ∧ wput f o.dst v fun f' => wopsS P lib b all r id f' T' Q
        | none => False
    | false => wput f o.dst undef fun f' => wopsS P lib b all r (if allocOp P o then id + 1 else id) f' T Q
def slook (P : Program) (lib : Prims) (b : Nat) (all : List Oper) (o : Oper) (r : List Oper) (id : Nat) (f : AFr) (T : ASt) (Q : AFr → ASt → Prop) : Option AR → Prop
  | some (.val v _) => lowO o f b = true ∧ valEq v v = true ∧ wput f o.dst v fun f' => wopsS P lib b all r id f' T Q
  | _ => False
def smake (P : Program) (lib : Prims) (b : Nat) (all r : List Oper) (id : Nat) (f : AFr) (T : ASt) (d : Option Tmp) (Q : AFr → ASt → Prop) : Option (Value × Blk) → Prop
  | some (v, bl) => wput f d v fun f' => wopsS P lib b all r (id + 1) f' (T.put id (.blk bl)) Q
  | none => False
def sstep (P : Program) (lib : Prims) (b : Nat) (all r : List Oper) (id : Nat) (f : AFr) (d : Option Tmp) (T : ASt) (Q : AFr → ASt → Prop) : Option AR → Prop
  | some (.val v T') => Stay b T T' ∧ wput f d v fun f' => wopsS P lib b all r id f' T' Q
  | some (.call g args) => Runs P lib g args T fun v T' => Stay b T T' ∧ wput f d v fun f' => wopsS P lib b all r id f' T' Q
  | none => False
def scall (P : Program) (lib : Prims) (b : Nat) (all r : List Oper) (id : Nat) (f : AFr) (d : Option Tmp) (Q : AFr → ASt → Prop) (v : Value) (T' : ASt) : Prop := wput f d v fun f' => wopsS P lib b all r id f' T' Q
def swant (P : Program) (lib : Prims) (b : Nat) (all : List Oper) (o : Oper) (r : List Oper) (id : Nat) (f : AFr) (T : ASt) (Q : AFr → ASt → Prop) : Bool → Prop
  | true => bif quietOp P o then slook P lib b all o r id f T Q (aop P o f T) else bif allocOp P o then smake P lib b all r id f T o.dst Q (valloc id (aop P o f ⟨.nil, id⟩)) else sstep P lib b all r id f o.dst T Q (aop P o f T)
  | false => wput f o.dst undef fun f' => wopsS P lib b all r (if allocOp P o then id + 1 else id) f' T Q
section
variable (P : Program) (lib : Prims) (b : Nat) (all : List Oper) (r : List Oper) (id : Nat) (f : AFr) (T : ASt) (Q : AFr → ASt → Prop)
theorem wopsS_nil : wopsS P lib b all [] id f T Q = Q f T := by simp only [wopsS]
theorem wopsS_cons (o : Oper) : wopsS P lib b all (o :: r) id f T Q = swant P lib b all o r id f T Q (wantedA all o f) := by
  simp only [wopsS]
  cases wantedA all o f with
  | false => rfl
  | true =>
    simp only [swant]
    cases quietOp P o with
    | true =>
      simp only [cond_true]
      cases aop P o f T with
      | none => rfl
      | some a => cases a <;> rfl
    | false =>
      cases allocOp P o with
      | true =>
        simp only [cond_true, cond_false]
        cases valloc id (aop P o f ⟨.nil, id⟩) with
        | none => rfl
        | some a => rfl
      | false =>
        simp only [cond_false]
        cases aop P o f T with
        | none => rfl
        | some a => cases a <;> rfl
variable (d : Option Tmp) (ty : TypeId) (ps : String) (af : Array Edge) (gd : Option (Nat × Bool))
theorem swant_true (o : Oper) : swant P lib b all o r id f T Q true = bif quietOp P o then slook P lib b all o r id f T Q (aop P o f T) else bif allocOp P o then smake P lib b all r id f T o.dst Q (valloc id (aop P o f ⟨.nil, id⟩)) else sstep P lib b all r id f o.dst T Q (aop P o f T) := rfl
theorem swant_ite (o : Oper) : swant P lib b all o r id f T Q true = if quietOp P o = true then slook P lib b all o r id f T Q (aop P o f T) else if allocOp P o = true then smake P lib b all r id f T o.dst Q (valloc id (aop P o f ⟨.nil, id⟩)) else sstep P lib b all r id f o.dst T Q (aop P o f T) := by
  rw [swant_true]
  cases quietOp P o <;> cases allocOp P o <;> rfl
theorem swant_false_some (op : Op) (t : Tmp) : swant P lib b all ⟨some t, op, ty, ps, af, gd⟩ r id f T Q false = if t < f.n then wopsS P lib b all r (if allocOp P ⟨some t, op, ty, ps, af, gd⟩ then id + 1 else id) (f.put t undef) T Q else False := by
  simp only [swant, wput_some]
theorem slook_val (o : Op) (t : Tmp) (v : Value) (s' : ASt) : slook P lib b all ⟨some t, o, ty, ps, af, gd⟩ r id f T Q (some (.val v s')) = if lowO ⟨some t, o, ty, ps, af, gd⟩ f b = true ∧ valEq v v = true ∧ t < f.n then wopsS P lib b all r id (f.put t v) T Q else False := by
  simp only [slook, wput_some]
  by_cases h0 : lowO ⟨some t, o, ty, ps, af, gd⟩ f b = true <;> by_cases h1 : valEq v v = true <;> by_cases h2 : t < f.n <;> simp [h0, h1, h2]
theorem sstep_call (g : FuncId) (args : List Value) : sstep P lib b all r id f d T Q (some (.call g args)) = Runs P lib g args T (fun v T' => Stay b T T' ∧ scall P lib b all r id f d Q v T') := rfl
theorem scall_some (t : Tmp) (v : Value) (s' : ASt) : scall P lib b all r id f (some t) Q v s' = if t < f.n then wopsS P lib b all r id (f.put t v) s' Q else False := by
  simp only [scall, wput_some]
theorem sstep_same (v : Value) : sstep P lib b all r id f d T Q (some (.val v T)) = scall P lib b all r id f d Q v T := by
  simp only [sstep, scall, Stay.refl, true_and]
theorem scall_none (v : Value) (s' : ASt) : scall P lib b all r id f none Q v s' = wopsS P lib b all r id f s' Q := rfl
theorem smake_eq (v : Value) (bl : Blk) : smake P lib b all r id f T d Q (some (v, bl)) = scall P lib b all r (id + 1) f d Q v (T.put id (.blk bl)) := rfl
theorem low_move (x : Operand) : lowO ⟨d, .move x, ty, ps, af, gd⟩ f b = true := rfl
theorem low_assign (x : Operand) : lowO ⟨d, .assign x, ty, ps, af, gd⟩ f b = true := rfl
theorem low_pick (x y z : Operand) : lowO ⟨d, .pick x y z, ty, ps, af, gd⟩ f b = true := rfl
theorem low_nilCheck (x : Operand) : lowO ⟨d, .nilCheck x, ty, ps, af, gd⟩ f b = true := rfl
theorem low_binOp (o : BinOp) (t : TypeId) (x y : Operand) (u : TypeId) : lowO ⟨d, .binOp o t x y u, ty, ps, af, gd⟩ f b = true := rfl
theorem low_unOp (o : UnOp) (t : TypeId) (x : Operand) : lowO ⟨d, .unOp o t x, ty, ps, af, gd⟩ f b = true := rfl
theorem low_convert (t u : TypeId) (x : Operand) : lowO ⟨d, .convert t u x, ty, ps, af, gd⟩ f b = true := rfl
theorem low_fieldAddr (t : TypeId) (x : Operand) (i : Nat) : lowO ⟨d, .fieldAddr t x i, ty, ps, af, gd⟩ f b = true := rfl
theorem low_field (t : TypeId) (x : Operand) (i : Nat) : lowO ⟨d, .field t x i, ty, ps, af, gd⟩ f b = true := rfl
theorem low_indexAddr (t : TypeId) (x y : Operand) : lowO ⟨d, .indexAddr t x y, ty, ps, af, gd⟩ f b = true := rfl
theorem low_index (t : TypeId) (x y : Operand) : lowO ⟨d, .index t x y, ty, ps, af, gd⟩ f b = true := rfl
theorem low_extract (x : Operand) (i : Nat) : lowO ⟨d, .extract x i, ty, ps, af, gd⟩ f b = true := rfl
theorem low_load (t : TypeId) (x : Operand) : lowO ⟨d, .load t x, ty, ps, af, gd⟩ f b = lowV b (evalA f x) := rfl
theorem low_len (args : Array Operand) (ts : Array TypeId) : lowO ⟨d, .call ⟨.builtin .len, args, ts⟩, ty, ps, af, gd⟩ f b = lowL (evalAll f args.toList) := rfl
theorem lowL_string (x : ByteArray) : lowL (some [.string x]) = true := rfl
theorem lowV_ptr {i o : Nat} {c : Option Nat} (h : i < b) : lowV b (some (.pointer (some ⟨i, o, c⟩))) = true := by simpa [lowV, Nat.blt_eq] using h
theorem low_slice (t : TypeId) (x : Operand) (lo hi mx : Option Operand) : lowO ⟨d, .slice t x lo hi mx, ty, ps, af, gd⟩ f b = lowV b (evalA f x) := rfl
end
theorem scall_reframe {P : Program} {lib : Prims} {b : Nat} {all r : List Oper} {id : Nat} {f : AFr} {d : Option Tmp} {Q : AFr → ASt → Prop} {v : Value} {s' : ASt} (F : AFr → Prop) (h : F f) (k : ∀ f, F f → scall P lib b all r id f d Q v s') : scall P lib b all r id f d Q v s' := k f h
def needsS (P : Program) (o : Oper) : Bool := !calmOp o && !allocOp P o
def looseB (P : Program) (ops : List Oper) : Bool :=
  let ms := masks ops []
  ops.zipIdx.all fun x =>
    (ops.zipIdx.all fun y => !allocOp P y.1 || (bif Nat.blt y.2 x.2 then !needsS P x.1 || Nat.testBit (nth0 ms x.2) y.2 else !Nat.testBit (nth0 ms x.2) y.2)) &&
    (!(quietOp P x.1 && !calmOp x.1) || (Nat.ble (countP (fun j => !Nat.testBit (nth0 ms j) x.2) P ops 0) (countP (fun j => Nat.blt j x.2) P ops 0) && Nat.beq (countP (Nat.testBit (nth0 ms x.2)) P ops 0) (countP (fun j => Nat.blt j x.2) P ops 0)))
structure StandsS (s0 : ASt) (K : Nat) (i id : Nat) (as : List (Nat × Nat × Blk)) (T U : ASt) : Prop extends Stands s0 K i id as T U where
  stT : Stay s0.next s0 T
  stU : Stay s0.next s0 U
  ids : ∀ x ∈ as, s0.next ≤ x.2.1
theorem cut_quiet {P : Program} {o : Oper} (h : calmOp o = true) : quietOp P o = true := by
  cases hp : pureOp o with
  | true => exact pure_quiet hp
  | false =>
    simp only [calmOp, hp, Bool.false_or] at h
    obtain ⟨dst, op, type, pos, after, guard⟩ := o
    cases op <;> simp only [cutOp] at h <;> try (cases h; done)
    case call cl =>
      obtain ⟨callee, args, ts⟩ := cl
      cases callee with
      | builtin bi => cases bi <;> simp only at h <;> first | rfl | (cases h; done)
      | _ => simp at h
    all_goals rfl
theorem drawOps_loose {P : Program} {lib : Prims} {all : List Oper} (s0 : ASt) (msA : List Nat) {Q : AFr → ASt → Prop}
    (hwin : ∀ (o : Oper) (i : Nat), all[i]? = some o → quietOp P o = true → calmOp o = false → countP (fun j => !Nat.testBit (nth0 msA j) i) P all 0 ≤ effs P all i ∧ countP (Nat.testBit (nth0 msA i)) P all 0 = effs P all i)
    (hback : ∀ (o p : Oper) (i j : Nat), all[i]? = some o → all[j]? = some p → allocOp P p = true → j < i → needsS P o = true → Nat.testBit (nth0 msA i) j = true)
    (hfwd : ∀ (o p : Oper) (i j : Nat), all[i]? = some o → all[j]? = some p → allocOp P p = true → i ≤ j → Nat.testBit (nth0 msA i) j = false) :
    ∀ (l pre : List Oper) (ms : List Nat) (id : Nat) (f : AFr) (T U : ASt) (as : List (Nat × Nat × Blk)), all = pre ++ l → ms = msA.drop pre.length → ms.length = l.length → id + allocs P l ≤ s0.next + allocs P all → StandsS s0 (allocs P all) pre.length id as T U → (∀ x ∈ as, ∃ p, all[x.1]? = some p ∧ allocOp P p = true) → wopsS P lib s0.next all l id f U Q →
    ∃ es f' T' U', (∃ n, ∀ m, n ≤ m → drawOps P (acall P lib m) all ms l pre.length id f T as = some es) ∧ (stagesOf P l es T).getLastD T = T' ∧ framesOf l es f = f' ∧ Cl.fill (fun _ => true) T' (as ++ madeOf es pre.length) = U' ∧
      (∀ x ∈ madeOf es pre.length, pre.length ≤ x.1 ∧ ∃ p, all[x.1]? = some p ∧ allocOp P p = true) ∧
      (∀ x ∈ stagesOf P l es T, Stay s0.next s0 x) ∧ (∀ sts before, sts = before ++ stagesOf P l es T → (∀ x ∈ sts, Stay s0.next s0 x) → before.length = effs P pre pre.length → checkAll P all msA (as ++ madeOf es pre.length) sts ms l es pre.length f = true) ∧ Keeps s0 U' ∧ Q f' U' := by
  intro l
  induction l with
  | nil =>
    intro pre ms id f T U as _ _ hl _ hst _ hw
    rw [wopsS_nil] at hw
    cases ms with
    | cons m r => simp at hl
    | nil => exact ⟨[], f, T, U, ⟨0, fun _ _ => rfl⟩, rfl, rfl, by simp only [madeOf, List.append_nil]; exact hst.fill _ (fun _ _ => rfl), (fun x hx => by simp [madeOf] at hx), (fun x hx => by simp only [stagesOf, List.mem_singleton] at hx; rw [hx]; exact hst.stT), fun _ _ _ _ _ => rfl, hst.keeps, hw⟩
  | cons o r ih =>
    intro pre ms id f T U as hall hms hl hid hst has hw
    cases ms with
    | nil => simp at hl
    | cons m ms =>
    have hlr : ms.length = r.length := by simpa using hl
    have hall' : all = (pre ++ [o]) ++ r := by rw [hall, List.append_assoc]; rfl
    have hlen' : (pre ++ [o]).length = pre.length + 1 := by simp
    have hms' : ms = msA.drop (pre ++ [o]).length := by
      rw [hlen', ← List.drop_drop, ← hms]; rfl
    have hmA : nth0 msA pre.length = m := by
      have nth0_drop : ∀ (L : List Nat) (k : Nat) (x : Nat) (t : List Nat), L.drop k = x :: t → nth0 L k = x := by
        intro L
        induction L with
        | nil => intro k x t h; simp at h
        | cons y L ihL =>
          intro k x t h
          cases k with
          | zero => simp at h; exact h.1
          | succ k => simp only [List.drop_succ_cons] at h; simp only [nth0]; exact ihL k x t h
      exact nth0_drop msA pre.length m ms hms.symm
    have hget : all[pre.length]? = some o := by rw [hall]; simp
    have heffs : effs P all pre.length = effs P pre pre.length := by rw [hall, effs_append]
    have hsn := effs_snoc P o pre
    have hput : ∀ (v : Value) (id' : Nat) (U' : ASt), (wput f o.dst v fun f' => wopsS P lib s0.next all r id' f' U' Q) → ∃ f1, putD f o.dst v = some f1 ∧ wopsS P lib s0.next all r id' f1 U' Q := by
      intro v id' U' h
      unfold wput at h
      split at h
      · exact ⟨_, ‹_›, h⟩
      · exact h.elim
    have hallocs : allocs P (o :: r) = if allocOp P o then allocs P r + 1 else allocs P r := rfl
    
    have hfillU : needsS P o = true → Cl.fill (Nat.testBit m) T as = U := fun hn => hst.fill _ (fun x hx => by
      obtain ⟨p, hp, hpa⟩ := has x hx
      rw [← hmA]
      exact hback o p pre.length x.1 hget hp hpa (hst.before x hx) hn)
    rw [wopsS_cons] at hw
    cases hwa : wantedA all o f with
    | false =>
      rw [hwa] at hw
      obtain ⟨f1, hp, hw⟩ := hput _ _ _ hw
      have hst' : StandsS s0 (allocs P all) (pre ++ [o]).length (if allocOp P o then id + 1 else id) as T U := by
        refine ⟨⟨hst.fill, hst.here, fun x hx => by have := hst.before x hx; omega, by have := hst.lo; split <;> omega, fun k hk hk2 => hst.free k (by split at hk <;> omega) hk2, hst.next, hst.keeps⟩, hst.stT, hst.stU, hst.ids⟩
      obtain ⟨es, f', T', U', ⟨n, h1⟩, h3, h4, hf, hmd, hsts, h5, hk, h6⟩ := ih (pre ++ [o]) ms _ f1 T U as hall' hms' hlr (by rw [hallocs] at hid; split <;> split at hid <;> first | omega | contradiction) hst' has hw
      rw [hlen'] at h1 h5 hf hmd
      refine ⟨.skip :: es, f', T', U', ⟨n, fun q hq => ?_⟩, ?_, by simp only [framesOf, Ev.val, hp, h4], by simp only [madeOf]; exact hf, (fun x hx => by simp only [madeOf] at hx; obtain ⟨a, b⟩ := hmd x hx; exact ⟨by omega, b⟩), (fun x hx => by
        simp only [stagesOf] at hx
        split at hx
        · rcases List.mem_cons.mp hx with rfl | hx
          · exact hst.stT
          · exact hsts x hx
        · exact hsts x hx), fun sts before hs hss hb => ?_, hk, h6⟩
      · simp only [drawOps, drawOp, hwa, Ev.val, hp]
        rw [h1 q hq]
      · simp only [stagesOf]
        split
        · obtain ⟨rr, hr⟩ := stages_head P r es T
          rw [hr] at h3 ⊢
          rw [List.getLastD_cons] at h3 ⊢
          rw [List.getLastD_cons]; exact h3
        · exact h3
      · simp only [checkAll, Ev.val, hp, Bool.true_and, madeOf]
        simp only [stagesOf] at hs
        split at hs
        · rename_i he
          refine h5 sts (before ++ [T]) (by rw [hs, List.append_assoc]; rfl) hss ?_
          rw [← hlen', hsn, if_pos he, List.length_append, hb]; rfl
        · rename_i he
          refine h5 sts before hs hss ?_
          rw [← hlen', hsn, if_neg he, hb]
    | true =>
      rw [hwa] at hw
      cases hq : quietOp P o with
      | true =>
        simp only [swant, hq, cond_true] at hw
        have hne := quiet_not_effect hq
        have hna := quiet_not_alloc hq
        rw [hallocs, if_neg (by simp [hna])] at hid
        unfold slook at hw
        split at hw
        case h_2 => exact hw.elim
        rename_i v s1 hop
        obtain ⟨hlo, hv, hw⟩ := hw
        obtain ⟨f1, hp, hw⟩ := hput _ _ _ hw
        have hst' : StandsS s0 (allocs P all) (pre ++ [o]).length id as T U := ⟨⟨hst.fill, hst.here, fun x hx => by have := hst.before x hx; omega, hst.lo, hst.free, hst.next, hst.keeps⟩, hst.stT, hst.stU, hst.ids⟩
        obtain ⟨es, f', T', U', ⟨n, h1⟩, h3, h4, hf, hmd, hsts, h5, hk, h6⟩ := ih (pre ++ [o]) ms id f1 T U as hall' hms' hlr hid hst' has hw
        rw [hlen'] at h1 h5 hf hmd
        
        have hsee : ∃ s2, aop P o f (Cl.fill (Nat.testBit m) T as) = some (.val v s2) := by
          cases hpu : calmOp o with
          | true => exact ⟨_, calm_any hpu hlo hst.stU (hst.stT.trans (fill_stay _ _ _ _ hst.ids)) hop⟩
          | false => exact ⟨s1, by rw [hfillU (by simp [needsS, hpu, hna])]; exact hop⟩
        obtain ⟨s2, hsee⟩ := hsee
        refine ⟨.quiet v :: es, f', T', U', ⟨n, fun q hqm => ?_⟩, ?_, by simp only [framesOf, Ev.val, hp, h4], by simp only [madeOf]; exact hf, (fun x hx => by simp only [madeOf] at hx; obtain ⟨a, b⟩ := hmd x hx; exact ⟨by omega, b⟩), (fun x hx => hsts x (by simpa [stagesOf, hne] using hx)), fun sts before hs hss hb => ?_, hk, h6⟩
        · simp only [drawOps, drawOp, hwa, hq, hsee, Ev.val, hp, hna]
          rw [if_neg (by simp), h1 q hqm]
        · simp only [stagesOf, hne]; simpa using h3
        · have hs' : sts = before ++ stagesOf P r es T := by simpa [stagesOf, hne] using hs
          simp only [checkAll, Ev.val, hp, madeOf]
          rw [h5 sts before hs' hss (by rw [← hlen', hsn, if_neg (by simp [hne]), hb]), Bool.and_true]
          
          have hfw : ∀ X : ASt, Cl.fill (Nat.testBit m) X (as ++ madeOf es (pre.length + 1)) = Cl.fill (Nat.testBit m) X as := by
            intro X
            rw [fill_append, fill_none _ (madeOf es (pre.length + 1))]
            intro x hx
            obtain ⟨a, p, hp', hpa⟩ := hmd x hx
            rw [← hmA]
            exact hfwd o p pre.length x.1 hget hp' hpa (by omega)
          have hsame : ∀ (L : List ASt), (∀ x ∈ L, Stay s0.next s0 x) → (calmOp o = false → ∀ x ∈ L, x = T) → sameAt P m (as ++ madeOf es (pre.length + 1)) o f v L = true := by
            intro L
            induction L with
            | nil => intro _ _; rfl
            | cons x L ihL =>
              intro hx2 hx
              simp only [sameAt, hfw]
              have : ∃ s3, aop P o f (Cl.fill (Nat.testBit m) x as) = some (.val v s3) := by
                cases hpu : calmOp o with
                | true => exact ⟨_, calm_any hpu hlo hst.stU ((hx2 x (List.mem_cons_self ..)).trans (fill_stay _ _ _ _ hst.ids)) hop⟩
                | false => rw [hx hpu x (List.mem_cons_self ..)]; exact ⟨s2, hsee⟩
              obtain ⟨s3, hs3⟩ := this
              rw [hs3]
              simp only [hv, Bool.true_and]
              exact ihL (fun y hy => hx2 y (List.mem_cons_of_mem _ hy)) (fun hpu y hy => hx hpu y (List.mem_cons_of_mem _ hy))
          refine hsame _ (fun x hx => hss x (List.mem_of_mem_take (List.mem_of_mem_drop hx))) (fun hpu x hx => ?_)
          obtain ⟨t1, t2⟩ := hwin o pre.length hget hq hpu
          rw [hmA] at t2
          rw [t2] at hx
          obtain ⟨rr, hr⟩ := stages_head P r es T
          rw [heffs, ← hb, List.drop_take, hs', hr, List.drop_left] at hx
          have hk1 : countP (fun j => !Nat.testBit (nth0 msA j) pre.length) P all 0 + 1 - before.length ≤ 1 := by omega
          generalize countP (fun j => !Nat.testBit (nth0 msA j) pre.length) P all 0 + 1 - before.length = k at hx hk1
          cases k with
          | zero => simp at hx
          | succ k =>
            obtain rfl : k = 0 := by omega
            simpa using hx
      | false =>
        cases ha : allocOp P o with
        | true =>
          simp only [swant, hq, ha, cond_true, cond_false] at hw
          rw [hallocs, if_pos ha] at hid
          have hne : effectOp P o = false := by simp [effectOp, ha]
          unfold smake at hw
          split at hw
          case h_2 => exact hw.elim
          rename_i v b hop
          obtain ⟨f1, hp, hw⟩ := hput _ _ _ hw
          have hop' : ∃ s1, aop P o f ⟨.nil, id⟩ = some (.val v s1) ∧ s1.blk? id = some b := by
            unfold valloc at hop
            split at hop
            · rename_i v1 s1 h1
              split at hop
              · rename_i b1 hb1
                injection hop with hop; injection hop with e1 e2; subst e1; subst e2
                exact ⟨s1, h1, hb1⟩
              · cases hop
            · cases hop
          obtain ⟨s1, ho1, ho2⟩ := hop'
          have hfree := hst.free id (Nat.le_refl _) (by omega)
          have hlt : id < U.next := by have := hst.next; omega
          have hst' : StandsS s0 (allocs P all) (pre ++ [o]).length (id + 1) (as ++ [(pre.length, id, b)]) T (U.put id (.blk b)) := by
            refine ⟨⟨fun p hp => ?_, fun x hx => ?_, fun x hx => ?_, by have := hst.lo; omega, fun k hk hk2 => ?_, by have := hst.next; simpa [ASt.put] using this, ?_⟩, hst.stT, hst.stU.trans ⟨Nat.le_refl _, fun i hi => ASt.get_put_ne _ _ _ _ (by have := hst.lo; omega)⟩, fun x hx => ?_⟩
            · rw [fill_append, hst.fill p (fun x hx => hp x (List.mem_append_left _ hx))]
              have hpi : p pre.length = true := hp (pre.length, id, b) (List.mem_append_right _ (List.mem_cons_self ..))
              simp only [Cl.fill, hpi, hfree]
            · rcases List.mem_append.mp hx with hx | hx
              · have hh := hst.here x hx
                have : x.2.1 ≠ id := fun e => hh (by rw [e]; exact hfree)
                rw [ASt.get_put_ne _ _ _ _ (Ne.symm this)]; exact hh
              · rw [List.mem_singleton] at hx; subst hx
                simp only [ASt.put, Tr.get_set_self _ _ _ _ (deep (by omega))]; simp
            · rcases List.mem_append.mp hx with hx | hx
              · have := hst.before x hx; omega
              · rw [List.mem_singleton] at hx; subst hx; simp
            · rw [ASt.get_put_ne _ _ _ _ (by omega)]; exact hst.free k (by omega) hk2
            · have hk := hst.keeps
              refine ⟨hk.next, fun j hj hn => ?_, fun j hj => ?_, ⟨by omega, fun j ob hj => ?_⟩⟩
              · have := hst.lo
                rw [ASt.get_put_ne _ _ _ _ (by omega)]; exact hk.gone j hj hn
              · by_cases hji : id = j
                · subst hji; simp only [ASt.put, Tr.get_set_self _ _ _ _ (deep (by omega))]; simp
                · rw [ASt.get_put_ne _ _ _ _ hji]; exact hk.here j hj
              · by_cases hji : id = j
                · subst hji; simpa [ASt.put] using hlt
                · rw [ASt.get_put_ne _ _ _ _ hji] at hj; have := hk.wf.bound j ob hj; simpa [ASt.put] using this
            · rcases List.mem_append.mp hx with hx | hx
              · exact hst.ids x hx
              · rw [List.mem_singleton] at hx; subst hx; exact hst.lo
          have has' : ∀ x ∈ as ++ [(pre.length, id, b)], ∃ p, all[x.1]? = some p ∧ allocOp P p = true := by
            intro x hx
            rcases List.mem_append.mp hx with hx | hx
            · exact has x hx
            · rw [List.mem_singleton] at hx; subst hx; exact ⟨o, hget, ha⟩
          obtain ⟨es, f', T', U', ⟨n, h1⟩, h3, h4, hf, hmd, hsts, h5, hk, h6⟩ := ih (pre ++ [o]) ms (id + 1) f1 T _ _ hall' hms' hlr (by omega) hst' has' hw
          rw [hlen'] at h1 h5 hf hmd
          have hap : ∀ L, as ++ (pre.length, id, b) :: L = (as ++ [(pre.length, id, b)]) ++ L := fun L => by rw [List.append_assoc]; rfl
          refine ⟨.made v id b :: es, f', T', U', ⟨n, fun q hqm => ?_⟩, ?_, by simp only [framesOf, Ev.val, hp, h4], by simp only [madeOf]; rw [hap]; exact hf, (fun x hx => ?_), (fun x hx => hsts x (by simpa [stagesOf, hne] using hx)), fun sts before hs hss hb => ?_, hk, h6⟩
          · simp only [drawOps, drawOp, hwa, hq, ha, ho1, ho2, Ev.val, hp, if_true]
            rw [h1 q hqm]
          · simp only [stagesOf, hne]; simpa using h3
          · simp only [madeOf] at hx
            rcases List.mem_cons.mp hx with rfl | hx
            · exact ⟨Nat.le_refl _, o, hget, ha⟩
            · obtain ⟨a, c⟩ := hmd x hx; exact ⟨by omega, c⟩
          · simp only [checkAll, Ev.val, hp, Bool.true_and, madeOf]
            rw [hap]
            have hs' : sts = before ++ stagesOf P r es T := by simpa [stagesOf, hne] using hs
            exact h5 sts before hs' hss (by rw [← hlen', hsn, if_neg (by simp [hne]), hb])
        | false =>
          simp only [swant, hq, ha, cond_false] at hw
          rw [hallocs, if_neg (by simp [ha])] at hid
          have he : effectOp P o = true := by simp [effectOp, hq, ha]
          have hpu : calmOp o = false := by
            cases hpu : calmOp o with
            | false => rfl
            | true => rw [cut_quiet hpu] at hq; cases hq
          have hU := hfillU (by simp [needsS, hpu, ha])
          have fin : ∀ (v : Value) (U1 : ASt) (n0 : Nat), (∀ q, n0 ≤ q → drawOp P (acall P lib q) all m id as o f T = some (.eff v U1)) → Keeps U U1 → Stay s0.next U U1 → (wput f o.dst v fun f' => wopsS P lib s0.next all r id f' U1 Q) →
              ∃ es f' T' U', (∃ n, ∀ m', n ≤ m' → drawOps P (acall P lib m') all (m :: ms) (o :: r) pre.length id f T as = some es) ∧ (stagesOf P (o :: r) es T).getLastD T = T' ∧ framesOf (o :: r) es f = f' ∧ Cl.fill (fun _ => true) T' (as ++ madeOf es pre.length) = U' ∧
                (∀ x ∈ madeOf es pre.length, pre.length ≤ x.1 ∧ ∃ p, all[x.1]? = some p ∧ allocOp P p = true) ∧
                (∀ x ∈ stagesOf P (o :: r) es T, Stay s0.next s0 x) ∧ (∀ sts before, sts = before ++ stagesOf P (o :: r) es T → (∀ x ∈ sts, Stay s0.next s0 x) → before.length = effs P pre pre.length → checkAll P all msA (as ++ madeOf es pre.length) sts (m :: ms) (o :: r) es pre.length f = true) ∧ Keeps s0 U' ∧ Q f' U' := by
            intro v U1 n0 hd hkU hkS hw
            obtain ⟨f1, hp, hw⟩ := hput _ _ _ hw
            have hhere : ∀ x ∈ as, U1.heap.get x.2.1 ≠ none := fun x hx => hkU.here _ (hst.here x hx)
            have hst' : StandsS s0 (allocs P all) (pre ++ [o]).length id as U1 U1 := by
              refine ⟨⟨fun p hp => fill_here p as U1 hhere, hhere, fun x hx => by have := hst.before x hx; omega, hst.lo, fun k hk hk2 => hkU.gone k (by have := hst.next; omega) (hst.free k hk hk2), by have := hst.next; have := hkU.next; omega, hst.keeps.trans hkU⟩, hst.stU.trans hkS, hst.stU.trans hkS, hst.ids⟩
            obtain ⟨es, f', T', U', ⟨n, h1⟩, h3, h4, hf, hmd, hsts, h5, hk, h6⟩ := ih (pre ++ [o]) ms id f1 U1 U1 as hall' hms' hlr hid hst' has hw
            rw [hlen'] at h1 h5 hf hmd
            refine ⟨.eff v U1 :: es, f', T', U', ⟨n + n0, fun q hqm => ?_⟩, ?_, by simp only [framesOf, Ev.val, hp, h4], by simp only [madeOf]; exact hf, (fun x hx => by simp only [madeOf] at hx; obtain ⟨a, b⟩ := hmd x hx; exact ⟨by omega, b⟩), (fun x hx => by
              simp only [stagesOf] at hx
              rcases List.mem_cons.mp hx with rfl | hx
              · exact hst.stT
              · exact hsts x hx), fun sts before hs hss hb => ?_, hk, h6⟩
            · simp only [drawOps, hd q (by omega), Ev.val, hp, ha]
              rw [if_neg (by simp), h1 q (by omega)]
            · simp only [stagesOf]
              obtain ⟨rr, hr⟩ := stages_head P r es U1
              rw [hr] at h3 ⊢
              rw [List.getLastD_cons] at h3 ⊢
              rw [List.getLastD_cons]; exact h3
            · simp only [checkAll, Ev.val, hp, Bool.true_and, madeOf]
              simp only [stagesOf] at hs
              refine h5 sts (before ++ [T]) (by rw [hs, List.append_assoc]; rfl) hss ?_
              rw [← hlen', hsn, if_pos he, List.length_append, hb]; rfl
          unfold sstep at hw
          split at hw
          case h_3 => exact hw.elim
          · rename_i v U1 hop
            obtain ⟨hkS, hw⟩ := hw
            exact fin v U1 0 (fun q _ => by simp only [drawOp, hwa, hq, ha, hU, hop]) (aop_keeps hst.keeps.wf hop) hkS hw
          · rename_i g args hop
            obtain ⟨v, U1, ⟨nc, hc⟩, hkU, hkS, hw⟩ := hw hst.keeps.wf
            exact fin v U1 nc (fun q hqm => by simp only [drawOp, hwa, hq, ha, hU, hop, hc q hqm]) hkU hkS hw
theorem Drawn.loose {P : Program} {lib : Prims} {ops : List Oper} (ht : looseB P ops = true) {f : AFr} {s : ASt} {Q : AFr → ASt → Prop} (h : wopsS P lib s.next ops ops s.next f (spare s (allocs P ops)) Q) : Drawn P lib ops f s Q := by
  intro hwf
  simp only [looseB, List.all_eq_true, Bool.and_eq_true, Bool.or_eq_true, Bool.not_eq_true'] at ht
  have hmem : ∀ (o : Oper) (i : Nat), ops[i]? = some o → (o, i) ∈ ops.zipIdx := fun o i hi => by rw [List.mem_zipIdx_iff_getElem?]; simpa using hi
  have hms : (masks ops []).length = ops.length := by
    obtain ⟨r, h1, h2⟩ := masks_pre ops []
    rw [h1]; simpa using h2
  have hfree : ∀ k, s.next ≤ k → s.heap.get k = none := fun k hk1 => by
    cases hg : s.heap.get k with
    | none => rfl
    | some o => have := hwf.bound k o hg; omega
  have hk0 : Keeps s (spare s (allocs P ops)) := ⟨by simp [spare], fun _ _ h => h, fun _ h => h, ⟨by omega, fun j o hj => by have := hwf.bound j o hj; simp only [spare]; omega⟩⟩
  obtain ⟨es, f', T', U', ⟨n, h1⟩, h3, h4, hf, hmd, hsts, h5, hk, h6⟩ := drawOps_loose (P := P) (lib := lib) (all := ops) s (masks ops []) (Q := Q) (fun o i hi hq hp => by
      have := (ht (o, i) (hmem o i hi)).2
      have hcb := countP_before P ops 0 i
      rw [Nat.zero_add] at hcb
      rcases this with h | h
      · simp [hq, hp] at h
      · obtain ⟨t1, t2⟩ := h
        rw [hcb] at t1 t2
        exact ⟨by simpa [Nat.ble_eq] using t1, by simpa [Nat.beq_eq] using t2⟩)
    (fun o p i j hi hj ha hji hn => by
      have := (ht (o, i) (hmem o i hi)).1 (p, j) (hmem p j hj)
      have hb : Nat.blt j i = true := by simpa [Nat.blt_eq] using hji
      simp only [ha, hb, cond_true, hn] at this
      simpa using this)
    (fun o p i j hi hj ha hij => by
      have := (ht (o, i) (hmem o i hi)).1 (p, j) (hmem p j hj)
      have hb : Nat.blt j i = false := by rw [← Bool.not_eq_true, Nat.blt_eq]; omega
      simp only [ha, hb, cond_false] at this
      simpa using this)
    ops [] (masks ops []) s.next f (spare s (allocs P ops)) (spare s (allocs P ops)) [] rfl rfl hms (by omega)
    ⟨⟨fun _ _ => rfl, fun _ hx => (by cases hx), fun _ hx => (by cases hx), Nat.le_refl _, fun k hk1 _ => hfree k hk1, by simp [spare], hk0⟩, Stay.spare _ _, Stay.spare _ _, fun _ hx => (by cases hx)⟩ (fun _ hx => (by cases hx)) h
  simp only [List.nil_append, List.length_nil] at h1 h5 hf hmd
  refine ⟨f', U', ⟨n, fun m hm => ?_⟩, hk, h6⟩
  unfold drawRun
  have h1' := h1 m hm
  have hb : Nat.ble 0 16000000 = true := rfl
  simp only [hb]
  show (match drawOps P (acall P lib m) ops (masks ops []) ops 0 s.next f (spare s (allocs P ops)) [] with
    | some es => match checkAll P ops (masks ops []) (madeOf es 0) (stagesOf P ops es (spare s (allocs P ops))) (masks ops []) ops es 0 f with
      | true => some (framesOf ops es f, Cl.fill (fun _ => true) ((stagesOf P ops es (spare s (allocs P ops))).getLastD s) (madeOf es 0))
      | false => none
    | none => none) = _
  rw [h1']
  have h5' := h5 (stagesOf P ops es (spare s (allocs P ops))) [] rfl hsts rfl
  simp only [h5', h4]
  obtain ⟨rr, hr⟩ := stages_head P ops es (spare s (allocs P ops))
  rw [hr] at h3 ⊢
  rw [List.getLastD_cons] at h3 ⊢
  rw [h3, hf]
theorem Drawn.looseK {P : Program} {lib : Prims} {ops : List Oper} {f : AFr} {s : ASt} {Q : AFr → ASt → Prop} (k : Nat) (ht : looseB P ops = true) (hk : Nat.beq (allocs P ops) k = true) (h : wopsS P lib s.next ops ops s.next f (spare s k) Q) : wdraw P lib ops f s Q false := by
  have : allocs P ops = k := by simpa [Nat.beq_eq] using hk
  exact Drawn.loose ht (by rw [this]; exact h)
section
variable {P : Program} {lib : Prims} {b : Nat} {all r : List Oper} {id : Nat} {f : AFr} {T : ASt} {d : Option Tmp} {Q : AFr → ASt → Prop}
theorem smake_newSlice {cs : List Value} {n z base : Nat} (h : cs.length = n * z) (hid : id < T.next) (hb : base ≤ id)
    (K : ∀ v T', Own T' z v n cs → idOf v = some id → Stay base T T' → T'.next = T.next → (∀ j, j ≠ id → T'.heap.get j = T.heap.get j) → scall P lib b all r (id + 1) f d Q v T') : smake P lib b all r id f T d Q (valloc id (pOf (newSlice ⟨.nil, id⟩ cs n z))) := by
  have e : valloc id (pOf (newSlice ⟨.nil, id⟩ cs n z)) = some (.slice (some ⟨id, 0, none⟩) n (cs.length + 1), ⟨cs, 1, true, z⟩) := by
    have : newSlice ⟨.nil, id⟩ cs n z = some (.slice (some ⟨id, 0, none⟩) n (cs.length + 1), (⟨.nil, id⟩ : ASt).new (.blk ⟨cs, 1, true, z⟩)) := by simp [newSlice, ASt.room]
    rw [this, pOf_some]
    have hb : ((⟨.nil, id⟩ : ASt).new (.blk ⟨cs, 1, true, z⟩)).blk? id = some ⟨cs, 1, true, z⟩ := blk_new ⟨.nil, id⟩ _
    simp only [valloc, hb]
  rw [e, smake_eq]
  have hoth : ∀ j, j ≠ id → (T.put id (.blk ⟨cs, 1, true, z⟩)).heap.get j = T.heap.get j := fun j hj => ASt.get_put_ne _ _ _ _ (Ne.symm hj)
  refine K _ _ (.of id n 1 cs (by simpa [ASt.put] using hid) (ASt.blk?_put_self _ _ _ (by omega)) (by omega) h) rfl ⟨Nat.le_refl _, fun j hj => hoth j (by omega)⟩ rfl hoth
theorem sstep_append {st xt e : TypeId} {xd : TypeDesc} {z by8 : Nat} {zv : Value} (hu : P.underlying st = some (.slice e)) (hux : P.underlying xt = some xd) (hxd : (∃ e2, xd = .slice e2) ∨ xd = .string) (hsz : sizeB P e = some z) (hby : bytesB P e = some by8) (hzv : zeroB P e = some zv) (hzl : Nat.beq zv.cells.toList.length z = true)
    {x y : Value} {n m : Nat} {l new : List Value} (hx : Own T z x n l) (hy : srcCells T z y = some (m, new)) (hnew : new.length = m * z) (hz0 : 0 < z) (hok : new.all okCell = true) (hb1 : (n + m) * by8 ≤ 140737488355328) (hb2 : n + m ≤ 140737488355328) (hF : Fresh b x) (hB : b ≤ T.next)
    (K : ∀ x' T', Own T' z x' (n + m) (l ++ new) → Fresh b x' → Stay b T T' → Turns x T T' → (idOf x' = idOf x ∨ ∃ i, idOf x' = some i ∧ T.next ≤ i) → scall P lib b all r id f d Q x' T') : sstep P lib b all r id f d T Q (pOf (appendA P T st xt x y)) := by
  obtain ⟨x', s', h1, h2, h3, h4⟩ := Own.append hu hux hxd hsz hby hzv hzl hx hy hnew hz0 hok hb1 hb2
  rw [h1, pOf_some]
  have hk := h3.keeps hF hB
  refine ⟨hk, K _ _ h2 (fun i hi => ?_) hk h3 h4⟩
  rcases h4 with h4 | ⟨j, hj, hl⟩
  · exact hF i (by rw [← h4]; exact hi)
  · rw [hj] at hi; injection hi with hi; omega
end
end Go.Cl
namespace Go.Cl
namespace LA
structure StayA (A : Nat → Bool) (s s' : ASt) : Prop where
  next : s.next ≤ s'.next
  get : ∀ i, A i = true → s'.heap.get i = s.heap.get i
theorem StayA.refl (A : Nat → Bool) (s : ASt) : StayA A s s := ⟨Nat.le_refl _, fun _ _ => rfl⟩
theorem StayA.trans {A : Nat → Bool} {s s' s'' : ASt} (h : StayA A s s') (k : StayA A s' s'') : StayA A s s'' := ⟨Nat.le_trans h.next k.next, fun i hi => (k.get i hi).trans (h.get i hi)⟩
theorem Stay.toA {A : Nat → Bool} {n : Nat} {s s' : ASt} (hA : ∀ i, A i = true → i < n) (h : Stay n s s') : StayA A s s' := ⟨h.next, fun i hi => h.get i (hA i hi)⟩
def cutOp (o : Oper) : Bool :=
  match o.op with
  | .slice _ _ _ _ _ => true
  | .load _ _ => true
  | .call ⟨.builtin .len, _, _⟩ => true
  | .convert _ _ _ => true
  | _ => false
def calmOp (P : Program) (o : Oper) : Bool := pureOp o || (cutOp o && quietOp P o)
def lowV (A : Nat → Bool) : Option Value → Bool
  | some (.slice (some a) _ c) => A a.block || Nat.beq c 0
  | some (.slice none _ _) => true
  | some (.string _) => true
  | some (.pointer (some a)) => A a.block
  | _ => false
def lowC (A : Nat → Bool) : Option Value → Bool
  | some (.slice a n c) => lowV A (some (.slice a n c))
  | _ => true
theorem lowC_int {A : Nat → Bool} (k : IntKind) (n : Int) : lowC A (some (.int k n)) = true := rfl
theorem lowC_string {A : Nat → Bool} (b : ByteArray) : lowC A (some (.string b)) = true := rfl
def lowL : Option (List Value) → Bool
  | some [.slice _ _ _] => true
  | some [.string _] => true
  | _ => false
def lowO (o : Oper) (f : AFr) (A : Nat → Bool) : Bool :=
  match o.op with
  | .slice _ x _ _ _ => lowV A (evalA f x)
  | .load _ x => lowV A (evalA f x)
  | .call ⟨.builtin .len, args, _⟩ => lowL (evalAll f args.toList)
  | .convert _ _ x => lowC A (evalA f x)
  | _ => true
theorem sliceA_low {P : Program} {s t : ASt} {A : Nat → Bool} (h : StayA A s t) {ty : TypeId} {u : Value} {lo hi mx : Option Value} (hl : lowV A (some u) = true) : sliceA P s ty u lo hi mx = sliceA P t ty u lo hi mx := by
  unfold sliceA
  generalize P.underlying ty = U
  have ee : ∀ i c, (A i = true ∨ c = 0) → ∀ z, eszIs s i c z = eszIs t i c z := fun i c hi z => by
    unfold eszIs
    cases c with
    | zero => rfl
    | succ c => simp only [ASt.blk?, h.get i (hi.resolve_right (by omega))]
  cases U with
  | none => rfl
  | some D =>
    cases u with
    | slice a n c =>
      cases a with
      | none => cases D <;> rfl
      | some a =>
        obtain ⟨i, off, sp⟩ := a
        have hi : A i = true ∨ c = 0 := by simpa [lowV, Nat.blt_eq] using hl
        cases sp with
        | none => cases D <;> simp only [ee i c hi]
        | some k => cases D <;> rfl
    | string x => cases D <;> rfl
    | pointer a =>
      cases a with
      | none => simp [lowV] at hl
      | some a =>
        obtain ⟨i, off, sp⟩ := a
        have hi : A i = true := by simpa [lowV, Nat.blt_eq] using hl
        have hb : s.blk? i = t.blk? i := by simp only [ASt.blk?, h.get i hi]
        cases sp with
        | none => cases D <;> rfl
        | some k => cases D <;> simp only [hb]
    | _ => simp [lowV] at hl
theorem loadA_low {P : Program} {s t : ASt} {A : Nat → Bool} (h : StayA A s t) {ty : TypeId} {u : Value} (hl : lowV A (some u) = true) : loadA P s ty u = loadA P t ty u := by
  unfold loadA
  cases u with
  | pointer a =>
    cases a with
    | none => rfl
    | some a =>
      obtain ⟨i, off, sp⟩ := a
      have hi : A i = true := by simpa [lowV, Nat.blt_eq] using hl
      have hb : ∀ off c n, s.cellsAt i off c n = t.cellsAt i off c n := fun off c n => by simp only [ASt.cellsAt, ASt.blk?, h.get i hi]
      cases sp with
      | none => rfl
      | some k => simp only [hb]
  | _ => rfl
theorem lenA_low {P : Program} {s t : ASt} {ty : TypeId} {u : Value} (hl : lowL (some [u]) = true) : lenA P s ty u = lenA P t ty u := by
  unfold lenA
  generalize P.underlying ty = U
  cases U with
  | none => rfl
  | some D =>
    cases u with
    | slice a n c => cases D <;> rfl
    | string x => cases D <;> rfl
    | _ => simp [lowL] at hl
theorem convA_low {P : Program} {s0 s t : ASt} {A : Nat → Bool} (hs : StayA A s0 s) (ht : StayA A s0 t) {src dst : TypeId} (hd : ∀ e, P.underlying dst ≠ some (.slice e)) {u : Value} (hl : lowC A (some u) = true) {v : Value} {s' : ASt} (h : convA P s src dst u = some (v, s')) : convA P t src dst u = some (v, t) := by
  unfold convA at h ⊢
  split at h
  · cases h; rfl
  · cases h; rfl
  · rename_i hh; exact absurd hh (hd _)
  · rename_i hh; exact absurd hh (hd _)
  · split at h
    · rename_i hc; rw [if_pos hc]; cases h; rfl
    · cases h
  · rename_i e i off len c _ _
    split at h
    case isFalse => cases h
    rename_i hc
    rw [if_pos hc]
    cases len with
    | zero => cases h; rfl
    | succ n =>
      have hc : A i = true ∨ c = 0 := by simpa [lowC, lowV] using hl
      have he : s.cellsAt i off c (n + 1) = t.cellsAt i off c (n + 1) := by
        rcases hc with hi | h0
        · simp only [ASt.cellsAt, ASt.blk?, hs.get i hi, ht.get i hi]
        · subst h0
          have hz : ∀ q : ASt, q.cellsAt i off 0 (n + 1) = none := fun q => by
            simp only [ASt.cellsAt]; cases q.blk? i with
            | none => rfl
            | some b => have : Nat.blt (off + (n + 1)) 0 = false := by rw [← Bool.not_eq_true, Nat.blt_eq]; omega
                        simp [this]
          rw [hz, hz]
      simp only at h ⊢
      rw [← he]
      cases hce : s.cellsAt i off c (n + 1) with
      | none => rw [hce] at h; cases h
      | some l =>
        rw [hce] at h
        simp only at h ⊢
        cases hb : toBytes l with
        | none => rw [hb] at h; cases h
        | some bs => rw [hb] at h; cases h; rfl
  · cases h
theorem calm_any {P : Program} {o : Oper} {A : Nat → Bool} {s0 : ASt} (h : calmOp P o = true) {f : AFr} {s t : ASt} (hl : lowO o f A = true) (hs : StayA A s0 s) (ht : StayA A s0 t) {v : Value} {s' : ASt} (ha : aop P o f s = some (.val v s')) : aop P o f t = some (.val v t) := by
  cases hp : pureOp o with
  | true => exact pure_any hp ha
  | false =>
    simp only [calmOp, hp, Bool.false_or, Bool.and_eq_true] at h
    obtain ⟨h, hq⟩ := h
    obtain ⟨dst, op, type, pos, after, guard⟩ := o
    have htrans : ∀ {r1 r2 : Option Value}, r1 = r2 → vOf s r1 = some (.val v s') → vOf t r2 = some (.val v t) := by
      intro r1 r2 e hv
      subst e
      cases r1 with
      | none => cases hv
      | some w =>
        rw [vOf_some] at hv
        injection hv with hv; injection hv with hv _; subst hv; rfl
    cases op <;> simp only [cutOp] at h <;> try (cases h; done)
    case slice ty x lo hi mx =>
      rw [aop_slice] at ha ⊢
      simp only [lowO] at hl
      split at ha
      · rename_i u l hh m hu h2 h3 h4
        rw [hu] at hl
        have e1 := sliceA_low (P := P) hs (ty := ty) (lo := l) (hi := hh) (mx := m) hl
        have e2 := sliceA_low (P := P) ht (ty := ty) (lo := l) (hi := hh) (mx := m) hl
        exact htrans (by rw [← e1, ← e2]) ha
      · cases ha
    case convert src dst x =>
      rw [aop_convert] at ha ⊢
      simp only [lowO] at hl
      split at ha
      · rename_i u hu
        rw [hu] at hl
        cases hc : convA P s src dst u with
        | none => rw [hc] at ha; cases ha
        | some r =>
          obtain ⟨w, s1⟩ := r
          rw [hc, pOf_some] at ha
          injection ha with ha; injection ha with hw _
          subst hw
          have hd : ∀ e, P.underlying dst ≠ some (.slice e) := fun e he => by simp [quietOp, he] at hq
          rw [convA_low hs ht hd hl hc]; rfl
      · cases ha
    case load ty x =>
      rw [aop_load] at ha ⊢
      simp only [lowO] at hl
      split at ha
      · rename_i u hu
        rw [hu] at hl
        have e1 := loadA_low (P := P) hs (ty := ty) hl
        have e2 := loadA_low (P := P) ht (ty := ty) hl
        exact htrans (by rw [← e1, ← e2]) ha
      · cases ha
    case call cl =>
      obtain ⟨callee, args, ts⟩ := cl
      cases callee with
      | builtin bi =>
        cases bi <;> simp only at h <;> try (cases h; done)
        simp only [lowO] at hl
        rw [aop_call_builtin] at ha ⊢
        cases hev : evalAll f args.toList with
        | none => rw [hev] at hl; simp [lowL] at hl
        | some vs =>
          rw [hev] at hl ha
          match vs, hl with
          | [u], hl =>
            simp only at ha ⊢
            unfold builtinA at ha ⊢
            split at ha <;> rename_i hts <;> simp_all
            rw [← lenA_low (P := P) (s := s) (t := t) hl]; exact htrans ha
          | [], hl => simp [lowL] at hl
          | a :: b :: r, hl => cases a <;> simp [lowL] at hl
      | _ => simp at h
theorem fill_stay (p : Nat → Bool) (A : Nat → Bool) : ∀ (as : List (Nat × Nat × Blk)) (T : ASt), (∀ x ∈ as, A x.2.1 = false) → StayA A T (Cl.fill p T as) := by
  intro as
  induction as with
  | nil => intro T _; exact StayA.refl _ _
  | cons x as ih =>
    intro T h
    obtain ⟨j, id, bk⟩ := x
    have hid : A id = false := h (j, id, bk) (List.mem_cons_self ..)
    have hr := fun y hy => h y (List.mem_cons_of_mem _ hy)
    simp only [Cl.fill]
    split
    · exact StayA.trans (s' := T.put id (.blk bk)) ⟨Nat.le_refl _, fun i hi => ASt.get_put_ne _ _ _ _ (by intro e; subst e; rw [hid] at hi; cases hi)⟩ (ih _ hr)
    · exact ih _ hr
def wopsS (P : Program) (lib : Prims) (A : Nat → Bool) (all : List Oper) : List Oper → Nat → AFr → ASt → (AFr → ASt → Prop) → Prop
  | [], _, f, T, Q => Q f T
  | o :: r, id, f, T, Q =>
    match wantedA all o f with
    | true =>
      match quietOp P o, allocOp P o with
      | true, _ =>
        match aop P o f T with
        | some (.val v _) => lowO o f A = true ∧ valEq v v = true ∧ wput f o.dst v fun f' => wopsS P lib A all r id f' T Q
        | _ => False
      | false, true =>
        match valloc id (aop P o f ⟨.nil, id⟩) with
        | some (v, bl) => wput f o.dst v fun f' => wopsS P lib A all r (id + 1) f' (T.put id (.blk bl)) Q
        | none => False
      | false, false =>
        match aop P o f T with
        | some (.val v T') => StayA A T T' ∧ wput f o.dst v fun f' => wopsS P lib A all r id f' T' Q
        | some (.call g args) => Runs P lib g args T fun v T' => StayA A T T' ∧ wput f o.dst v fun f' => wopsS P lib A all r id f' T' Q
        | none => False
    | false => wput f o.dst undef fun f' => wopsS P lib A all r (if allocOp P o then id + 1 else id) f' T Q
def slook (P : Program) (lib : Prims) (A : Nat → Bool) (all : List Oper) (o : Oper) (r : List Oper) (id : Nat) (f : AFr) (T : ASt) (Q : AFr → ASt → Prop) : Option AR → Prop
  | some (.val v _) => lowO o f A = true ∧ valEq v v = true ∧ wput f o.dst v fun f' => wopsS P lib A all r id f' T Q
  | _ => False
def smake (P : Program) (lib : Prims) (A : Nat → Bool) (all r : List Oper) (id : Nat) (f : AFr) (T : ASt) (d : Option Tmp) (Q : AFr → ASt → Prop) : Option (Value × Blk) → Prop
  | some (v, bl) => wput f d v fun f' => wopsS P lib A all r (id + 1) f' (T.put id (.blk bl)) Q
  | none => False
def sstep (P : Program) (lib : Prims) (A : Nat → Bool) (all r : List Oper) (id : Nat) (f : AFr) (d : Option Tmp) (T : ASt) (Q : AFr → ASt → Prop) : Option AR → Prop
  | some (.val v T') => StayA A T T' ∧ wput f d v fun f' => wopsS P lib A all r id f' T' Q
  | some (.call g args) => Runs P lib g args T fun v T' => StayA A T T' ∧ wput f d v fun f' => wopsS P lib A all r id f' T' Q
  | none => False
def scall (P : Program) (lib : Prims) (A : Nat → Bool) (all r : List Oper) (id : Nat) (f : AFr) (d : Option Tmp) (Q : AFr → ASt → Prop) (v : Value) (T' : ASt) : Prop := wput f d v fun f' => wopsS P lib A all r id f' T' Q
def swant (P : Program) (lib : Prims) (A : Nat → Bool) (all : List Oper) (o : Oper) (r : List Oper) (id : Nat) (f : AFr) (T : ASt) (Q : AFr → ASt → Prop) : Bool → Prop
  | true => bif quietOp P o then slook P lib A all o r id f T Q (aop P o f T) else bif allocOp P o then smake P lib A all r id f T o.dst Q (valloc id (aop P o f ⟨.nil, id⟩)) else sstep P lib A all r id f o.dst T Q (aop P o f T)
  | false => wput f o.dst undef fun f' => wopsS P lib A all r (if allocOp P o then id + 1 else id) f' T Q
section
variable (P : Program) (lib : Prims) (A : Nat → Bool) (all : List Oper) (r : List Oper) (id : Nat) (f : AFr) (T : ASt) (Q : AFr → ASt → Prop)
theorem wopsS_nil : wopsS P lib A all [] id f T Q = Q f T := by simp only [wopsS]
theorem wopsS_cons (o : Oper) : wopsS P lib A all (o :: r) id f T Q = swant P lib A all o r id f T Q (wantedA all o f) := by
  simp only [wopsS]
  cases wantedA all o f with
  | false => rfl
  | true =>
    simp only [swant]
    cases quietOp P o with
    | true =>
      simp only [cond_true]
      cases aop P o f T with
      | none => rfl
      | some a => cases a <;> rfl
    | false =>
      cases allocOp P o with
      | true =>
        simp only [cond_true, cond_false]
        cases valloc id (aop P o f ⟨.nil, id⟩) with
        | none => rfl
        | some a => rfl
      | false =>
        simp only [cond_false]
        cases aop P o f T with
        | none => rfl
        | some a => cases a <;> rfl
variable (d : Option Tmp) (ty : TypeId) (ps : String) (af : Array Edge) (gd : Option (Nat × Bool))
theorem swant_true (o : Oper) : swant P lib A all o r id f T Q true = bif quietOp P o then slook P lib A all o r id f T Q (aop P o f T) else bif allocOp P o then smake P lib A all r id f T o.dst Q (valloc id (aop P o f ⟨.nil, id⟩)) else sstep P lib A all r id f o.dst T Q (aop P o f T) := rfl
theorem swant_ite (o : Oper) : swant P lib A all o r id f T Q true = if quietOp P o = true then slook P lib A all o r id f T Q (aop P o f T) else if allocOp P o = true then smake P lib A all r id f T o.dst Q (valloc id (aop P o f ⟨.nil, id⟩)) else sstep P lib A all r id f o.dst T Q (aop P o f T) := by
  rw [swant_true]
  cases quietOp P o <;> cases allocOp P o <;> rfl
theorem swant_false_some (op : Op) (t : Tmp) : swant P lib A all ⟨some t, op, ty, ps, af, gd⟩ r id f T Q false = if t < f.n then wopsS P lib A all r (if allocOp P ⟨some t, op, ty, ps, af, gd⟩ then id + 1 else id) (f.put t undef) T Q else False := by
  simp only [swant, wput_some]
theorem slook_val (o : Op) (t : Tmp) (v : Value) (s' : ASt) : slook P lib A all ⟨some t, o, ty, ps, af, gd⟩ r id f T Q (some (.val v s')) = if lowO ⟨some t, o, ty, ps, af, gd⟩ f A = true ∧ valEq v v = true ∧ t < f.n then wopsS P lib A all r id (f.put t v) T Q else False := by
  simp only [slook, wput_some]
  by_cases h0 : lowO ⟨some t, o, ty, ps, af, gd⟩ f A = true <;> by_cases h1 : valEq v v = true <;> by_cases h2 : t < f.n <;> simp [h0, h1, h2]
theorem sstep_call (g : FuncId) (args : List Value) : sstep P lib A all r id f d T Q (some (.call g args)) = Runs P lib g args T (fun v T' => StayA A T T' ∧ scall P lib A all r id f d Q v T') := rfl
theorem scall_some (t : Tmp) (v : Value) (s' : ASt) : scall P lib A all r id f (some t) Q v s' = if t < f.n then wopsS P lib A all r id (f.put t v) s' Q else False := by
  simp only [scall, wput_some]
theorem sstep_same (v : Value) : sstep P lib A all r id f d T Q (some (.val v T)) = scall P lib A all r id f d Q v T := by
  simp only [sstep, scall, StayA.refl, true_and]
theorem scall_none (v : Value) (s' : ASt) : scall P lib A all r id f none Q v s' = wopsS P lib A all r id f s' Q := rfl
theorem smake_eq (v : Value) (bl : Blk) : smake P lib A all r id f T d Q (some (v, bl)) = scall P lib A all r (id + 1) f d Q v (T.put id (.blk bl)) := rfl
theorem low_move (x : Operand) : lowO ⟨d, .move x, ty, ps, af, gd⟩ f A = true := rfl
theorem low_assign (x : Operand) : lowO ⟨d, .assign x, ty, ps, af, gd⟩ f A = true := rfl
theorem low_pick (x y z : Operand) : lowO ⟨d, .pick x y z, ty, ps, af, gd⟩ f A = true := rfl
theorem low_nilCheck (x : Operand) : lowO ⟨d, .nilCheck x, ty, ps, af, gd⟩ f A = true := rfl
theorem low_binOp (o : BinOp) (t : TypeId) (x y : Operand) (u : TypeId) : lowO ⟨d, .binOp o t x y u, ty, ps, af, gd⟩ f A = true := rfl
theorem low_unOp (o : UnOp) (t : TypeId) (x : Operand) : lowO ⟨d, .unOp o t x, ty, ps, af, gd⟩ f A = true := rfl
theorem low_convert (t u : TypeId) (x : Operand) : lowO ⟨d, .convert t u x, ty, ps, af, gd⟩ f A = lowC A (evalA f x) := rfl
theorem low_fieldAddr (t : TypeId) (x : Operand) (i : Nat) : lowO ⟨d, .fieldAddr t x i, ty, ps, af, gd⟩ f A = true := rfl
theorem low_field (t : TypeId) (x : Operand) (i : Nat) : lowO ⟨d, .field t x i, ty, ps, af, gd⟩ f A = true := rfl
theorem low_indexAddr (t : TypeId) (x y : Operand) : lowO ⟨d, .indexAddr t x y, ty, ps, af, gd⟩ f A = true := rfl
theorem low_index (t : TypeId) (x y : Operand) : lowO ⟨d, .index t x y, ty, ps, af, gd⟩ f A = true := rfl
theorem low_extract (x : Operand) (i : Nat) : lowO ⟨d, .extract x i, ty, ps, af, gd⟩ f A = true := rfl
theorem low_load (t : TypeId) (x : Operand) : lowO ⟨d, .load t x, ty, ps, af, gd⟩ f A = lowV A (evalA f x) := rfl
theorem low_len (args : Array Operand) (ts : Array TypeId) : lowO ⟨d, .call ⟨.builtin .len, args, ts⟩, ty, ps, af, gd⟩ f A = lowL (evalAll f args.toList) := rfl
theorem lowL_string (x : ByteArray) : lowL (some [.string x]) = true := rfl
theorem lowV_ptr {i o : Nat} {c : Option Nat} (h : A i = true) : lowV A (some (.pointer (some ⟨i, o, c⟩))) = true := by simpa [lowV, Nat.blt_eq] using h
theorem low_slice (t : TypeId) (x : Operand) (lo hi mx : Option Operand) : lowO ⟨d, .slice t x lo hi mx, ty, ps, af, gd⟩ f A = lowV A (evalA f x) := rfl
end
theorem scall_reframe {P : Program} {lib : Prims} {A : Nat → Bool} {all r : List Oper} {id : Nat} {f : AFr} {d : Option Tmp} {Q : AFr → ASt → Prop} {v : Value} {s' : ASt} (F : AFr → Prop) (h : F f) (k : ∀ f, F f → scall P lib A all r id f d Q v s') : scall P lib A all r id f d Q v s' := k f h
def needsS (P : Program) (o : Oper) : Bool := !calmOp P o && !allocOp P o
def looseB (P : Program) (ops : List Oper) : Bool :=
  let ms := masks ops []
  ops.zipIdx.all fun x =>
    (ops.zipIdx.all fun y => !allocOp P y.1 || (bif Nat.blt y.2 x.2 then !needsS P x.1 || Nat.testBit (nth0 ms x.2) y.2 else !Nat.testBit (nth0 ms x.2) y.2)) &&
    (!(quietOp P x.1 && !calmOp P x.1) || (Nat.ble (countP (fun j => !Nat.testBit (nth0 ms j) x.2) P ops 0) (countP (fun j => Nat.blt j x.2) P ops 0) && Nat.beq (countP (Nat.testBit (nth0 ms x.2)) P ops 0) (countP (fun j => Nat.blt j x.2) P ops 0)))
structure StandsS (A : Nat → Bool) (s0 : ASt) (K : Nat) (i id : Nat) (as : List (Nat × Nat × Blk)) (T U : ASt) : Prop extends Stands s0 K i id as T U where
  stT : StayA A s0 T
  stU : StayA A s0 U
  ids : ∀ x ∈ as, A x.2.1 = false
theorem cut_quiet {P : Program} {o : Oper} (h : calmOp P o = true) : quietOp P o = true := by
  cases hp : pureOp o with
  | true => exact pure_quiet hp
  | false =>
    simp only [calmOp, hp, Bool.false_or, Bool.and_eq_true] at h
    exact h.2
theorem drawOps_loose {P : Program} {lib : Prims} {all : List Oper} {A : Nat → Bool} (s0 : ASt) (hA : ∀ i, A i = true → i < s0.next) (msA : List Nat) {Q : AFr → ASt → Prop}
    (hwin : ∀ (o : Oper) (i : Nat), all[i]? = some o → quietOp P o = true → calmOp P o = false → countP (fun j => !Nat.testBit (nth0 msA j) i) P all 0 ≤ effs P all i ∧ countP (Nat.testBit (nth0 msA i)) P all 0 = effs P all i)
    (hback : ∀ (o p : Oper) (i j : Nat), all[i]? = some o → all[j]? = some p → allocOp P p = true → j < i → needsS P o = true → Nat.testBit (nth0 msA i) j = true)
    (hfwd : ∀ (o p : Oper) (i j : Nat), all[i]? = some o → all[j]? = some p → allocOp P p = true → i ≤ j → Nat.testBit (nth0 msA i) j = false) :
    ∀ (l pre : List Oper) (ms : List Nat) (id : Nat) (f : AFr) (T U : ASt) (as : List (Nat × Nat × Blk)), all = pre ++ l → ms = msA.drop pre.length → ms.length = l.length → id + allocs P l ≤ s0.next + allocs P all → StandsS A s0 (allocs P all) pre.length id as T U → (∀ x ∈ as, ∃ p, all[x.1]? = some p ∧ allocOp P p = true) → wopsS P lib A all l id f U Q →
    ∃ es f' T' U', (∃ n, ∀ m, n ≤ m → drawOps P (acall P lib m) all ms l pre.length id f T as = some es) ∧ (stagesOf P l es T).getLastD T = T' ∧ framesOf l es f = f' ∧ Cl.fill (fun _ => true) T' (as ++ madeOf es pre.length) = U' ∧
      (∀ x ∈ madeOf es pre.length, pre.length ≤ x.1 ∧ ∃ p, all[x.1]? = some p ∧ allocOp P p = true) ∧
      (∀ x ∈ stagesOf P l es T, StayA A s0 x) ∧ (∀ sts before, sts = before ++ stagesOf P l es T → (∀ x ∈ sts, StayA A s0 x) → before.length = effs P pre pre.length → checkAll P all msA (as ++ madeOf es pre.length) sts ms l es pre.length f = true) ∧ Keeps s0 U' ∧ Q f' U' := by
  intro l
  induction l with
  | nil =>
    intro pre ms id f T U as _ _ hl _ hst _ hw
    rw [wopsS_nil] at hw
    cases ms with
    | cons m r => simp at hl
    | nil => exact ⟨[], f, T, U, ⟨0, fun _ _ => rfl⟩, rfl, rfl, by simp only [madeOf, List.append_nil]; exact hst.fill _ (fun _ _ => rfl), (fun x hx => by simp [madeOf] at hx), (fun x hx => by simp only [stagesOf, List.mem_singleton] at hx; rw [hx]; exact hst.stT), fun _ _ _ _ _ => rfl, hst.keeps, hw⟩
  | cons o r ih =>
    intro pre ms id f T U as hall hms hl hid hst has hw
    cases ms with
    | nil => simp at hl
    | cons m ms =>
    have hlr : ms.length = r.length := by simpa using hl
    have hall' : all = (pre ++ [o]) ++ r := by rw [hall, List.append_assoc]; rfl
    have hlen' : (pre ++ [o]).length = pre.length + 1 := by simp
    have hms' : ms = msA.drop (pre ++ [o]).length := by
      rw [hlen', ← List.drop_drop, ← hms]; rfl
    have hmA : nth0 msA pre.length = m := by
      have nth0_drop : ∀ (L : List Nat) (k : Nat) (x : Nat) (t : List Nat), L.drop k = x :: t → nth0 L k = x := by
        intro L
        induction L with
        | nil => intro k x t h; simp at h
        | cons y L ihL =>
          intro k x t h
          cases k with
          | zero => simp at h; exact h.1
          | succ k => simp only [List.drop_succ_cons] at h; simp only [nth0]; exact ihL k x t h
      exact nth0_drop msA pre.length m ms hms.symm
    have hget : all[pre.length]? = some o := by rw [hall]; simp
    have heffs : effs P all pre.length = effs P pre pre.length := by rw [hall, effs_append]
    have hsn := effs_snoc P o pre
    have hput : ∀ (v : Value) (id' : Nat) (U' : ASt), (wput f o.dst v fun f' => wopsS P lib A all r id' f' U' Q) → ∃ f1, putD f o.dst v = some f1 ∧ wopsS P lib A all r id' f1 U' Q := by
      intro v id' U' h
      unfold wput at h
      split at h
      · exact ⟨_, ‹_›, h⟩
      · exact h.elim
    have hallocs : allocs P (o :: r) = if allocOp P o then allocs P r + 1 else allocs P r := rfl
    
    have hfillU : needsS P o = true → Cl.fill (Nat.testBit m) T as = U := fun hn => hst.fill _ (fun x hx => by
      obtain ⟨p, hp, hpa⟩ := has x hx
      rw [← hmA]
      exact hback o p pre.length x.1 hget hp hpa (hst.before x hx) hn)
    rw [wopsS_cons] at hw
    cases hwa : wantedA all o f with
    | false =>
      rw [hwa] at hw
      obtain ⟨f1, hp, hw⟩ := hput _ _ _ hw
      have hst' : StandsS A s0 (allocs P all) (pre ++ [o]).length (if allocOp P o then id + 1 else id) as T U := by
        refine ⟨⟨hst.fill, hst.here, fun x hx => by have := hst.before x hx; omega, by have := hst.lo; split <;> omega, fun k hk hk2 => hst.free k (by split at hk <;> omega) hk2, hst.next, hst.keeps⟩, hst.stT, hst.stU, hst.ids⟩
      obtain ⟨es, f', T', U', ⟨n, h1⟩, h3, h4, hf, hmd, hsts, h5, hk, h6⟩ := ih (pre ++ [o]) ms _ f1 T U as hall' hms' hlr (by rw [hallocs] at hid; split <;> split at hid <;> first | omega | contradiction) hst' has hw
      rw [hlen'] at h1 h5 hf hmd
      refine ⟨.skip :: es, f', T', U', ⟨n, fun q hq => ?_⟩, ?_, by simp only [framesOf, Ev.val, hp, h4], by simp only [madeOf]; exact hf, (fun x hx => by simp only [madeOf] at hx; obtain ⟨a, b⟩ := hmd x hx; exact ⟨by omega, b⟩), (fun x hx => by
        simp only [stagesOf] at hx
        split at hx
        · rcases List.mem_cons.mp hx with rfl | hx
          · exact hst.stT
          · exact hsts x hx
        · exact hsts x hx), fun sts before hs hss hb => ?_, hk, h6⟩
      · simp only [drawOps, drawOp, hwa, Ev.val, hp]
        rw [h1 q hq]
      · simp only [stagesOf]
        split
        · obtain ⟨rr, hr⟩ := stages_head P r es T
          rw [hr] at h3 ⊢
          rw [List.getLastD_cons] at h3 ⊢
          rw [List.getLastD_cons]; exact h3
        · exact h3
      · simp only [checkAll, Ev.val, hp, Bool.true_and, madeOf]
        simp only [stagesOf] at hs
        split at hs
        · rename_i he
          refine h5 sts (before ++ [T]) (by rw [hs, List.append_assoc]; rfl) hss ?_
          rw [← hlen', hsn, if_pos he, List.length_append, hb]; rfl
        · rename_i he
          refine h5 sts before hs hss ?_
          rw [← hlen', hsn, if_neg he, hb]
    | true =>
      rw [hwa] at hw
      cases hq : quietOp P o with
      | true =>
        simp only [swant, hq, cond_true] at hw
        have hne := quiet_not_effect hq
        have hna := quiet_not_alloc hq
        rw [hallocs, if_neg (by simp [hna])] at hid
        unfold slook at hw
        split at hw
        case h_2 => exact hw.elim
        rename_i v s1 hop
        obtain ⟨hlo, hv, hw⟩ := hw
        obtain ⟨f1, hp, hw⟩ := hput _ _ _ hw
        have hst' : StandsS A s0 (allocs P all) (pre ++ [o]).length id as T U := ⟨⟨hst.fill, hst.here, fun x hx => by have := hst.before x hx; omega, hst.lo, hst.free, hst.next, hst.keeps⟩, hst.stT, hst.stU, hst.ids⟩
        obtain ⟨es, f', T', U', ⟨n, h1⟩, h3, h4, hf, hmd, hsts, h5, hk, h6⟩ := ih (pre ++ [o]) ms id f1 T U as hall' hms' hlr hid hst' has hw
        rw [hlen'] at h1 h5 hf hmd
        
        have hsee : ∃ s2, aop P o f (Cl.fill (Nat.testBit m) T as) = some (.val v s2) := by
          cases hpu : calmOp P o with
          | true => exact ⟨_, calm_any hpu hlo hst.stU (hst.stT.trans (fill_stay _ _ _ _ hst.ids)) hop⟩
          | false => exact ⟨s1, by rw [hfillU (by simp [needsS, hpu, hna])]; exact hop⟩
        obtain ⟨s2, hsee⟩ := hsee
        refine ⟨.quiet v :: es, f', T', U', ⟨n, fun q hqm => ?_⟩, ?_, by simp only [framesOf, Ev.val, hp, h4], by simp only [madeOf]; exact hf, (fun x hx => by simp only [madeOf] at hx; obtain ⟨a, b⟩ := hmd x hx; exact ⟨by omega, b⟩), (fun x hx => hsts x (by simpa [stagesOf, hne] using hx)), fun sts before hs hss hb => ?_, hk, h6⟩
        · simp only [drawOps, drawOp, hwa, hq, hsee, Ev.val, hp, hna]
          rw [if_neg (by simp), h1 q hqm]
        · simp only [stagesOf, hne]; simpa using h3
        · have hs' : sts = before ++ stagesOf P r es T := by simpa [stagesOf, hne] using hs
          simp only [checkAll, Ev.val, hp, madeOf]
          rw [h5 sts before hs' hss (by rw [← hlen', hsn, if_neg (by simp [hne]), hb]), Bool.and_true]
          
          have hfw : ∀ X : ASt, Cl.fill (Nat.testBit m) X (as ++ madeOf es (pre.length + 1)) = Cl.fill (Nat.testBit m) X as := by
            intro X
            rw [fill_append, fill_none _ (madeOf es (pre.length + 1))]
            intro x hx
            obtain ⟨a, p, hp', hpa⟩ := hmd x hx
            rw [← hmA]
            exact hfwd o p pre.length x.1 hget hp' hpa (by omega)
          have hsame : ∀ (L : List ASt), (∀ x ∈ L, StayA A s0 x) → (calmOp P o = false → ∀ x ∈ L, x = T) → sameAt P m (as ++ madeOf es (pre.length + 1)) o f v L = true := by
            intro L
            induction L with
            | nil => intro _ _; rfl
            | cons x L ihL =>
              intro hx2 hx
              simp only [sameAt, hfw]
              have : ∃ s3, aop P o f (Cl.fill (Nat.testBit m) x as) = some (.val v s3) := by
                cases hpu : calmOp P o with
                | true => exact ⟨_, calm_any hpu hlo hst.stU ((hx2 x (List.mem_cons_self ..)).trans (fill_stay _ _ _ _ hst.ids)) hop⟩
                | false => rw [hx hpu x (List.mem_cons_self ..)]; exact ⟨s2, hsee⟩
              obtain ⟨s3, hs3⟩ := this
              rw [hs3]
              simp only [hv, Bool.true_and]
              exact ihL (fun y hy => hx2 y (List.mem_cons_of_mem _ hy)) (fun hpu y hy => hx hpu y (List.mem_cons_of_mem _ hy))
          refine hsame _ (fun x hx => hss x (List.mem_of_mem_take (List.mem_of_mem_drop hx))) (fun hpu x hx => ?_)
          obtain ⟨t1, t2⟩ := hwin o pre.length hget hq hpu
          rw [hmA] at t2
          rw [t2] at hx
          obtain ⟨rr, hr⟩ := stages_head P r es T
          rw [heffs, ← hb, List.drop_take, hs', hr, List.drop_left] at hx
          have hk1 : countP (fun j => !Nat.testBit (nth0 msA j) pre.length) P all 0 + 1 - before.length ≤ 1 := by omega
          generalize countP (fun j => !Nat.testBit (nth0 msA j) pre.length) P all 0 + 1 - before.length = k at hx hk1
          cases k with
          | zero => simp at hx
          | succ k =>
            obtain rfl : k = 0 := by omega
            simpa using hx
      | false =>
        cases ha : allocOp P o with
        | true =>
          simp only [swant, hq, ha, cond_true, cond_false] at hw
          rw [hallocs, if_pos ha] at hid
          have hne : effectOp P o = false := by simp [effectOp, ha]
          unfold smake at hw
          split at hw
          case h_2 => exact hw.elim
          rename_i v b hop
          obtain ⟨f1, hp, hw⟩ := hput _ _ _ hw
          have hop' : ∃ s1, aop P o f ⟨.nil, id⟩ = some (.val v s1) ∧ s1.blk? id = some b := by
            unfold valloc at hop
            split at hop
            · rename_i v1 s1 h1
              split at hop
              · rename_i b1 hb1
                injection hop with hop; injection hop with e1 e2; subst e1; subst e2
                exact ⟨s1, h1, hb1⟩
              · cases hop
            · cases hop
          obtain ⟨s1, ho1, ho2⟩ := hop'
          have hfree := hst.free id (Nat.le_refl _) (by omega)
          have hlt : id < U.next := by have := hst.next; omega
          have hst' : StandsS A s0 (allocs P all) (pre ++ [o]).length (id + 1) (as ++ [(pre.length, id, b)]) T (U.put id (.blk b)) := by
            refine ⟨⟨fun p hp => ?_, fun x hx => ?_, fun x hx => ?_, by have := hst.lo; omega, fun k hk hk2 => ?_, by have := hst.next; simpa [ASt.put] using this, ?_⟩, hst.stT, hst.stU.trans ⟨Nat.le_refl _, fun i hi => ASt.get_put_ne _ _ _ _ (by have := hst.lo; have := hA i hi; omega)⟩, fun x hx => ?_⟩
            · rw [fill_append, hst.fill p (fun x hx => hp x (List.mem_append_left _ hx))]
              have hpi : p pre.length = true := hp (pre.length, id, b) (List.mem_append_right _ (List.mem_cons_self ..))
              simp only [Cl.fill, hpi, hfree]
            · rcases List.mem_append.mp hx with hx | hx
              · have hh := hst.here x hx
                have : x.2.1 ≠ id := fun e => hh (by rw [e]; exact hfree)
                rw [ASt.get_put_ne _ _ _ _ (Ne.symm this)]; exact hh
              · rw [List.mem_singleton] at hx; subst hx
                simp only [ASt.put, Tr.get_set_self _ _ _ _ (deep (by omega))]; simp
            · rcases List.mem_append.mp hx with hx | hx
              · have := hst.before x hx; omega
              · rw [List.mem_singleton] at hx; subst hx; simp
            · rw [ASt.get_put_ne _ _ _ _ (by omega)]; exact hst.free k (by omega) hk2
            · have hk := hst.keeps
              refine ⟨hk.next, fun j hj hn => ?_, fun j hj => ?_, ⟨by omega, fun j ob hj => ?_⟩⟩
              · have := hst.lo
                rw [ASt.get_put_ne _ _ _ _ (by omega)]; exact hk.gone j hj hn
              · by_cases hji : id = j
                · subst hji; simp only [ASt.put, Tr.get_set_self _ _ _ _ (deep (by omega))]; simp
                · rw [ASt.get_put_ne _ _ _ _ hji]; exact hk.here j hj
              · by_cases hji : id = j
                · subst hji; simpa [ASt.put] using hlt
                · rw [ASt.get_put_ne _ _ _ _ hji] at hj; have := hk.wf.bound j ob hj; simpa [ASt.put] using this
            · rcases List.mem_append.mp hx with hx | hx
              · exact hst.ids x hx
              · rw [List.mem_singleton] at hx; subst hx; exact (by cases hAi : A id with | false => rfl | true => (have := hA id hAi; have := hst.lo; omega))
          have has' : ∀ x ∈ as ++ [(pre.length, id, b)], ∃ p, all[x.1]? = some p ∧ allocOp P p = true := by
            intro x hx
            rcases List.mem_append.mp hx with hx | hx
            · exact has x hx
            · rw [List.mem_singleton] at hx; subst hx; exact ⟨o, hget, ha⟩
          obtain ⟨es, f', T', U', ⟨n, h1⟩, h3, h4, hf, hmd, hsts, h5, hk, h6⟩ := ih (pre ++ [o]) ms (id + 1) f1 T _ _ hall' hms' hlr (by omega) hst' has' hw
          rw [hlen'] at h1 h5 hf hmd
          have hap : ∀ L, as ++ (pre.length, id, b) :: L = (as ++ [(pre.length, id, b)]) ++ L := fun L => by rw [List.append_assoc]; rfl
          refine ⟨.made v id b :: es, f', T', U', ⟨n, fun q hqm => ?_⟩, ?_, by simp only [framesOf, Ev.val, hp, h4], by simp only [madeOf]; rw [hap]; exact hf, (fun x hx => ?_), (fun x hx => hsts x (by simpa [stagesOf, hne] using hx)), fun sts before hs hss hb => ?_, hk, h6⟩
          · simp only [drawOps, drawOp, hwa, hq, ha, ho1, ho2, Ev.val, hp, if_true]
            rw [h1 q hqm]
          · simp only [stagesOf, hne]; simpa using h3
          · simp only [madeOf] at hx
            rcases List.mem_cons.mp hx with rfl | hx
            · exact ⟨Nat.le_refl _, o, hget, ha⟩
            · obtain ⟨a, c⟩ := hmd x hx; exact ⟨by omega, c⟩
          · simp only [checkAll, Ev.val, hp, Bool.true_and, madeOf]
            rw [hap]
            have hs' : sts = before ++ stagesOf P r es T := by simpa [stagesOf, hne] using hs
            exact h5 sts before hs' hss (by rw [← hlen', hsn, if_neg (by simp [hne]), hb])
        | false =>
          simp only [swant, hq, ha, cond_false] at hw
          rw [hallocs, if_neg (by simp [ha])] at hid
          have he : effectOp P o = true := by simp [effectOp, hq, ha]
          have hpu : calmOp P o = false := by
            cases hpu : calmOp P o with
            | false => rfl
            | true => rw [cut_quiet hpu] at hq; cases hq
          have hU := hfillU (by simp [needsS, hpu, ha])
          have fin : ∀ (v : Value) (U1 : ASt) (n0 : Nat), (∀ q, n0 ≤ q → drawOp P (acall P lib q) all m id as o f T = some (.eff v U1)) → Keeps U U1 → StayA A U U1 → (wput f o.dst v fun f' => wopsS P lib A all r id f' U1 Q) →
              ∃ es f' T' U', (∃ n, ∀ m', n ≤ m' → drawOps P (acall P lib m') all (m :: ms) (o :: r) pre.length id f T as = some es) ∧ (stagesOf P (o :: r) es T).getLastD T = T' ∧ framesOf (o :: r) es f = f' ∧ Cl.fill (fun _ => true) T' (as ++ madeOf es pre.length) = U' ∧
                (∀ x ∈ madeOf es pre.length, pre.length ≤ x.1 ∧ ∃ p, all[x.1]? = some p ∧ allocOp P p = true) ∧
                (∀ x ∈ stagesOf P (o :: r) es T, StayA A s0 x) ∧ (∀ sts before, sts = before ++ stagesOf P (o :: r) es T → (∀ x ∈ sts, StayA A s0 x) → before.length = effs P pre pre.length → checkAll P all msA (as ++ madeOf es pre.length) sts (m :: ms) (o :: r) es pre.length f = true) ∧ Keeps s0 U' ∧ Q f' U' := by
            intro v U1 n0 hd hkU hkS hw
            obtain ⟨f1, hp, hw⟩ := hput _ _ _ hw
            have hhere : ∀ x ∈ as, U1.heap.get x.2.1 ≠ none := fun x hx => hkU.here _ (hst.here x hx)
            have hst' : StandsS A s0 (allocs P all) (pre ++ [o]).length id as U1 U1 := by
              refine ⟨⟨fun p hp => fill_here p as U1 hhere, hhere, fun x hx => by have := hst.before x hx; omega, hst.lo, fun k hk hk2 => hkU.gone k (by have := hst.next; omega) (hst.free k hk hk2), by have := hst.next; have := hkU.next; omega, hst.keeps.trans hkU⟩, hst.stU.trans hkS, hst.stU.trans hkS, hst.ids⟩
            obtain ⟨es, f', T', U', ⟨n, h1⟩, h3, h4, hf, hmd, hsts, h5, hk, h6⟩ := ih (pre ++ [o]) ms id f1 U1 U1 as hall' hms' hlr hid hst' has hw
            rw [hlen'] at h1 h5 hf hmd
            refine ⟨.eff v U1 :: es, f', T', U', ⟨n + n0, fun q hqm => ?_⟩, ?_, by simp only [framesOf, Ev.val, hp, h4], by simp only [madeOf]; exact hf, (fun x hx => by simp only [madeOf] at hx; obtain ⟨a, b⟩ := hmd x hx; exact ⟨by omega, b⟩), (fun x hx => by
              simp only [stagesOf] at hx
              rcases List.mem_cons.mp hx with rfl | hx
              · exact hst.stT
              · exact hsts x hx), fun sts before hs hss hb => ?_, hk, h6⟩
            · simp only [drawOps, hd q (by omega), Ev.val, hp, ha]
              rw [if_neg (by simp), h1 q (by omega)]
            · simp only [stagesOf]
              obtain ⟨rr, hr⟩ := stages_head P r es U1
              rw [hr] at h3 ⊢
              rw [List.getLastD_cons] at h3 ⊢
              rw [List.getLastD_cons]; exact h3
            · simp only [checkAll, Ev.val, hp, Bool.true_and, madeOf]
              simp only [stagesOf] at hs
              refine h5 sts (before ++ [T]) (by rw [hs, List.append_assoc]; rfl) hss ?_
              rw [← hlen', hsn, if_pos he, List.length_append, hb]; rfl
          unfold sstep at hw
          split at hw
          case h_3 => exact hw.elim
          · rename_i v U1 hop
            obtain ⟨hkS, hw⟩ := hw
            exact fin v U1 0 (fun q _ => by simp only [drawOp, hwa, hq, ha, hU, hop]) (aop_keeps hst.keeps.wf hop) hkS hw
          · rename_i g args hop
            obtain ⟨v, U1, ⟨nc, hc⟩, hkU, hkS, hw⟩ := hw hst.keeps.wf
            exact fin v U1 nc (fun q hqm => by simp only [drawOp, hwa, hq, ha, hU, hop, hc q hqm]) hkU hkS hw
theorem Drawn.loose {P : Program} {lib : Prims} {ops : List Oper} {A : Nat → Bool} (ht : looseB P ops = true) {f : AFr} {s : ASt} {Q : AFr → ASt → Prop} (hA : ∀ i, A i = true → i < s.next) (h : wopsS P lib A ops ops s.next f (spare s (allocs P ops)) Q) : Drawn P lib ops f s Q := by
  intro hwf
  simp only [looseB, List.all_eq_true, Bool.and_eq_true, Bool.or_eq_true, Bool.not_eq_true'] at ht
  have hmem : ∀ (o : Oper) (i : Nat), ops[i]? = some o → (o, i) ∈ ops.zipIdx := fun o i hi => by rw [List.mem_zipIdx_iff_getElem?]; simpa using hi
  have hms : (masks ops []).length = ops.length := by
    obtain ⟨r, h1, h2⟩ := masks_pre ops []
    rw [h1]; simpa using h2
  have hfree : ∀ k, s.next ≤ k → s.heap.get k = none := fun k hk1 => by
    cases hg : s.heap.get k with
    | none => rfl
    | some o => have := hwf.bound k o hg; omega
  have hk0 : Keeps s (spare s (allocs P ops)) := ⟨by simp [spare], fun _ _ h => h, fun _ h => h, ⟨by omega, fun j o hj => by have := hwf.bound j o hj; simp only [spare]; omega⟩⟩
  obtain ⟨es, f', T', U', ⟨n, h1⟩, h3, h4, hf, hmd, hsts, h5, hk, h6⟩ := drawOps_loose (P := P) (lib := lib) (all := ops) (A := A) s hA (masks ops []) (Q := Q) (fun o i hi hq hp => by
      have := (ht (o, i) (hmem o i hi)).2
      have hcb := countP_before P ops 0 i
      rw [Nat.zero_add] at hcb
      rcases this with h | h
      · simp [hq, hp] at h
      · obtain ⟨t1, t2⟩ := h
        rw [hcb] at t1 t2
        exact ⟨by simpa [Nat.ble_eq] using t1, by simpa [Nat.beq_eq] using t2⟩)
    (fun o p i j hi hj ha hji hn => by
      have := (ht (o, i) (hmem o i hi)).1 (p, j) (hmem p j hj)
      have hb : Nat.blt j i = true := by simpa [Nat.blt_eq] using hji
      simp only [ha, hb, cond_true, hn] at this
      simpa using this)
    (fun o p i j hi hj ha hij => by
      have := (ht (o, i) (hmem o i hi)).1 (p, j) (hmem p j hj)
      have hb : Nat.blt j i = false := by rw [← Bool.not_eq_true, Nat.blt_eq]; omega
      simp only [ha, hb, cond_false] at this
      simpa using this)
    ops [] (masks ops []) s.next f (spare s (allocs P ops)) (spare s (allocs P ops)) [] rfl rfl hms (by omega)
    ⟨⟨fun _ _ => rfl, fun _ hx => (by cases hx), fun _ hx => (by cases hx), Nat.le_refl _, fun k hk1 _ => hfree k hk1, by simp [spare], hk0⟩, Stay.toA hA (Stay.spare _ _), Stay.toA hA (Stay.spare _ _), fun _ hx => (by cases hx)⟩ (fun _ hx => (by cases hx)) h
  simp only [List.nil_append, List.length_nil] at h1 h5 hf hmd
  refine ⟨f', U', ⟨n, fun m hm => ?_⟩, hk, h6⟩
  unfold drawRun
  have h1' := h1 m hm
  have hb : Nat.ble 0 16000000 = true := rfl
  simp only [hb]
  show (match drawOps P (acall P lib m) ops (masks ops []) ops 0 s.next f (spare s (allocs P ops)) [] with
    | some es => match checkAll P ops (masks ops []) (madeOf es 0) (stagesOf P ops es (spare s (allocs P ops))) (masks ops []) ops es 0 f with
      | true => some (framesOf ops es f, Cl.fill (fun _ => true) ((stagesOf P ops es (spare s (allocs P ops))).getLastD s) (madeOf es 0))
      | false => none
    | none => none) = _
  rw [h1']
  have h5' := h5 (stagesOf P ops es (spare s (allocs P ops))) [] rfl hsts rfl
  simp only [h5', h4]
  obtain ⟨rr, hr⟩ := stages_head P ops es (spare s (allocs P ops))
  rw [hr] at h3 ⊢
  rw [List.getLastD_cons] at h3 ⊢
  rw [h3, hf]
theorem Drawn.looseK {P : Program} {lib : Prims} {ops : List Oper} {f : AFr} {s : ASt} {Q : AFr → ASt → Prop} (A : Nat → Bool) (hA : ∀ i, A i = true → i < s.next) (k : Nat) (ht : looseB P ops = true) (hk : Nat.beq (allocs P ops) k = true) (h : wopsS P lib A ops ops s.next f (spare s k) Q) : wdraw P lib ops f s Q false := by
  have : allocs P ops = k := by simpa [Nat.beq_eq] using hk
  exact Drawn.loose ht hA (by rw [this]; exact h)
section
variable {P : Program} {lib : Prims} {A : Nat → Bool} {all r : List Oper} {id : Nat} {f : AFr} {T : ASt} {d : Option Tmp} {Q : AFr → ASt → Prop}
theorem smake_newSlice {cs : List Value} {n z base : Nat} (h : cs.length = n * z) (hid : id < T.next) (hb : base ≤ id)
    (K : ∀ v T', Own T' z v n cs → idOf v = some id → Stay base T T' → T'.next = T.next → (∀ j, j ≠ id → T'.heap.get j = T.heap.get j) → scall P lib A all r (id + 1) f d Q v T') : smake P lib A all r id f T d Q (valloc id (pOf (newSlice ⟨.nil, id⟩ cs n z))) := by
  have e : valloc id (pOf (newSlice ⟨.nil, id⟩ cs n z)) = some (.slice (some ⟨id, 0, none⟩) n (cs.length + 1), ⟨cs, 1, true, z⟩) := by
    have : newSlice ⟨.nil, id⟩ cs n z = some (.slice (some ⟨id, 0, none⟩) n (cs.length + 1), (⟨.nil, id⟩ : ASt).new (.blk ⟨cs, 1, true, z⟩)) := by simp [newSlice, ASt.room]
    rw [this, pOf_some]
    have hb : ((⟨.nil, id⟩ : ASt).new (.blk ⟨cs, 1, true, z⟩)).blk? id = some ⟨cs, 1, true, z⟩ := blk_new ⟨.nil, id⟩ _
    simp only [valloc, hb]
  rw [e, smake_eq]
  have hoth : ∀ j, j ≠ id → (T.put id (.blk ⟨cs, 1, true, z⟩)).heap.get j = T.heap.get j := fun j hj => ASt.get_put_ne _ _ _ _ (Ne.symm hj)
  refine K _ _ (.of id n 1 cs (by simpa [ASt.put] using hid) (ASt.blk?_put_self _ _ _ (by omega)) (by omega) h) rfl ⟨Nat.le_refl _, fun j hj => hoth j (by omega)⟩ rfl hoth
theorem sstep_append {st xt e : TypeId} {xd : TypeDesc} {z by8 : Nat} {zv : Value} (hu : P.underlying st = some (.slice e)) (hux : P.underlying xt = some xd) (hxd : (∃ e2, xd = .slice e2) ∨ xd = .string) (hsz : sizeB P e = some z) (hby : bytesB P e = some by8) (hzv : zeroB P e = some zv) (hzl : Nat.beq zv.cells.toList.length z = true)
    {x y : Value} {n m : Nat} {l new : List Value} (hx : Own T z x n l) (hy : srcCells T z y = some (m, new)) (hnew : new.length = m * z) (hz0 : 0 < z) (hok : new.all okCell = true) (hb1 : (n + m) * by8 ≤ 140737488355328) (hb2 : n + m ≤ 140737488355328) {base : Nat} (hF : Fresh base x) (hB : base ≤ T.next) (hA1 : ∀ i, idOf x = some i → A i = false) (hA2 : ∀ i, A i = true → i < T.next)
    (K : ∀ x' T', Own T' z x' (n + m) (l ++ new) → Fresh base x' → StayA A T T' → Turns x T T' → (idOf x' = idOf x ∨ ∃ i, idOf x' = some i ∧ T.next ≤ i) → scall P lib A all r id f d Q x' T') : sstep P lib A all r id f d T Q (pOf (appendA P T st xt x y)) := by
  obtain ⟨x', s', h1, h2, h3, h4⟩ := Own.append hu hux hxd hsz hby hzv hzl hx hy hnew hz0 hok hb1 hb2
  rw [h1, pOf_some]
  have hk : StayA A T s' := ⟨h3.next, fun i hi => h3.get i (hA2 i hi) (fun e => by have := hA1 i e; rw [hi] at this; cases this)⟩
  refine ⟨hk, K _ _ h2 (fun i hi => ?_) hk h3 h4⟩
  rcases h4 with h4 | ⟨j, hj, hl⟩
  · exact hF i (by rw [← h4]; exact hi)
  · rw [hj] at hi; injection hi with hi; omega
end
end LA
theorem allL : type_of%
  (And.intro (And.intro (And.intro (And.intro @LA.low_move @LA.low_assign) (And.intro @LA.low_pick @LA.low_load)) (And.intro (And.intro @LA.low_nilCheck
  @LA.low_binOp) (And.intro @LA.low_unOp (And.intro @LA.low_convert @LA.lowC_int)))) (And.intro (And.intro (And.intro @LA.lowC_string @LA.low_fieldAddr) (And.intro
  @LA.low_field @LA.low_indexAddr)) (And.intro (And.intro @LA.low_index @LA.low_extract) (And.intro @LA.low_len (And.intro @LA.low_slice @LA.lowL_string))))) :=
  (And.intro (And.intro (And.intro (And.intro @LA.low_move @LA.low_assign) (And.intro @LA.low_pick @LA.low_load)) (And.intro (And.intro @LA.low_nilCheck
  @LA.low_binOp) (And.intro @LA.low_unOp (And.intro @LA.low_convert @LA.lowC_int)))) (And.intro (And.intro (And.intro @LA.lowC_string @LA.low_fieldAddr) (And.intro
  @LA.low_field @LA.low_indexAddr)) (And.intro (And.intro @LA.low_index @LA.low_extract) (And.intro @LA.low_len (And.intro @LA.low_slice @LA.lowL_string)))))
end Go.Cl
namespace Go.Cl
namespace LB
def wopsS (P : Program) (lib : Prims) (A : Nat → Bool) (all : List Oper) : List Oper → Nat → Nat → AFr → ASt → (AFr → ASt → Prop) → Prop
  | [], _, _, f, T, Q => Q f T
  | o :: r, g, id, f, T, Q =>
    match wantedA all o f with
    | true =>
      match quietOp P o, allocOp P o with
      | true, _ =>
        match aop P o f T with
        | some (.val v _) => LA.lowO o f A = true ∧ valEq v v = true ∧ wput f o.dst v fun f' => wopsS P lib A all r g id f' T Q
        | _ => False
      | false, true =>
        match valloc id (aop P o f ⟨.nil, id⟩) with
        | some (v, bl) => wput f o.dst v fun f' => wopsS P lib A all r g (id + 1) f' (T.put id (.blk bl)) Q
        | none => False
      | false, false =>
        match aop P o f T with
        | some (.val v T') => (g ≠ 0 → LA.StayA A T T') ∧ wput f o.dst v fun f' => wopsS P lib A all r (g - 1) id f' T' Q
        | some (.call gg args) => Runs P lib gg args T fun v T' => (g ≠ 0 → LA.StayA A T T') ∧ wput f o.dst v fun f' => wopsS P lib A all r (g - 1) id f' T' Q
        | none => False
    | false => wput f o.dst undef fun f' => wopsS P lib A all r (if effectOp P o then g - 1 else g) (if allocOp P o then id + 1 else id) f' T Q
def slook (P : Program) (lib : Prims) (A : Nat → Bool) (g : Nat) (all : List Oper) (o : Oper) (r : List Oper) (id : Nat) (f : AFr) (T : ASt) (Q : AFr → ASt → Prop) : Option AR → Prop
  | some (.val v _) => LA.lowO o f A = true ∧ valEq v v = true ∧ wput f o.dst v fun f' => wopsS P lib A all r g id f' T Q
  | _ => False
def smake (P : Program) (lib : Prims) (A : Nat → Bool) (g : Nat) (all r : List Oper) (id : Nat) (f : AFr) (T : ASt) (d : Option Tmp) (Q : AFr → ASt → Prop) : Option (Value × Blk) → Prop
  | some (v, bl) => wput f d v fun f' => wopsS P lib A all r g (id + 1) f' (T.put id (.blk bl)) Q
  | none => False
def sstep (P : Program) (lib : Prims) (A : Nat → Bool) (g : Nat) (all r : List Oper) (id : Nat) (f : AFr) (d : Option Tmp) (T : ASt) (Q : AFr → ASt → Prop) : Option AR → Prop
  | some (.val v T') => (g ≠ 0 → LA.StayA A T T') ∧ wput f d v fun f' => wopsS P lib A all r (g - 1) id f' T' Q
  | some (.call gg args) => Runs P lib gg args T fun v T' => (g ≠ 0 → LA.StayA A T T') ∧ wput f d v fun f' => wopsS P lib A all r (g - 1) id f' T' Q
  | none => False
def scall (P : Program) (lib : Prims) (A : Nat → Bool) (g : Nat) (all r : List Oper) (id : Nat) (f : AFr) (d : Option Tmp) (Q : AFr → ASt → Prop) (v : Value) (T' : ASt) : Prop := wput f d v fun f' => wopsS P lib A all r g id f' T' Q
def swant (P : Program) (lib : Prims) (A : Nat → Bool) (g : Nat) (all : List Oper) (o : Oper) (r : List Oper) (id : Nat) (f : AFr) (T : ASt) (Q : AFr → ASt → Prop) : Bool → Prop
  | true => bif quietOp P o then slook P lib A g all o r id f T Q (aop P o f T) else bif allocOp P o then smake P lib A g all r id f T o.dst Q (valloc id (aop P o f ⟨.nil, id⟩)) else sstep P lib A g all r id f o.dst T Q (aop P o f T)
  | false => wput f o.dst undef fun f' => wopsS P lib A all r (if effectOp P o then g - 1 else g) (if allocOp P o then id + 1 else id) f' T Q
section
variable (P : Program) (lib : Prims) (A : Nat → Bool) (all : List Oper) (r : List Oper) (g id : Nat) (f : AFr) (T : ASt) (Q : AFr → ASt → Prop)
theorem wopsS_nil : wopsS P lib A all [] g id f T Q = Q f T := by simp only [wopsS]
theorem wopsS_cons (o : Oper) : wopsS P lib A all (o :: r) g id f T Q = swant P lib A g all o r id f T Q (wantedA all o f) := by
  simp only [wopsS]
  cases wantedA all o f with
  | false => rfl
  | true =>
    simp only [swant]
    cases quietOp P o with
    | true =>
      simp only [cond_true]
      cases aop P o f T with
      | none => rfl
      | some a => cases a <;> rfl
    | false =>
      cases allocOp P o with
      | true =>
        simp only [cond_true, cond_false]
        cases valloc id (aop P o f ⟨.nil, id⟩) with
        | none => rfl
        | some a => rfl
      | false =>
        simp only [cond_false]
        cases aop P o f T with
        | none => rfl
        | some a => cases a <;> rfl
variable (d : Option Tmp) (ty : TypeId) (ps : String) (af : Array Edge) (gd : Option (Nat × Bool))
theorem swant_true (o : Oper) : swant P lib A g all o r id f T Q true = bif quietOp P o then slook P lib A g all o r id f T Q (aop P o f T) else bif allocOp P o then smake P lib A g all r id f T o.dst Q (valloc id (aop P o f ⟨.nil, id⟩)) else sstep P lib A g all r id f o.dst T Q (aop P o f T) := rfl
theorem swant_ite (o : Oper) : swant P lib A g all o r id f T Q true = if quietOp P o = true then slook P lib A g all o r id f T Q (aop P o f T) else if allocOp P o = true then smake P lib A g all r id f T o.dst Q (valloc id (aop P o f ⟨.nil, id⟩)) else sstep P lib A g all r id f o.dst T Q (aop P o f T) := by
  rw [swant_true]
  cases quietOp P o <;> cases allocOp P o <;> rfl
theorem swant_false_some (op : Op) (t : Tmp) : swant P lib A g all ⟨some t, op, ty, ps, af, gd⟩ r id f T Q false = if t < f.n then wopsS P lib A all r (if quietOp P ⟨some t, op, ty, ps, af, gd⟩ = true then g else if allocOp P ⟨some t, op, ty, ps, af, gd⟩ = true then g else g - 1) (if allocOp P ⟨some t, op, ty, ps, af, gd⟩ = true then id + 1 else id) (f.put t undef) T Q else False := by
  have e : (if effectOp P ⟨some t, op, ty, ps, af, gd⟩ = true then g - 1 else g) = (if quietOp P ⟨some t, op, ty, ps, af, gd⟩ = true then g else if allocOp P ⟨some t, op, ty, ps, af, gd⟩ = true then g else g - 1) := by
    unfold effectOp
    cases quietOp P ⟨some t, op, ty, ps, af, gd⟩ <;> cases allocOp P ⟨some t, op, ty, ps, af, gd⟩ <;> rfl
  rw [← e]
  simp only [swant, wput_some]
theorem slook_val (o : Op) (t : Tmp) (v : Value) (s' : ASt) : slook P lib A g all ⟨some t, o, ty, ps, af, gd⟩ r id f T Q (some (.val v s')) = if LA.lowO ⟨some t, o, ty, ps, af, gd⟩ f A = true ∧ valEq v v = true ∧ t < f.n then wopsS P lib A all r g id (f.put t v) T Q else False := by
  simp only [slook, wput_some]
  by_cases h0 : LA.lowO ⟨some t, o, ty, ps, af, gd⟩ f A = true <;> by_cases h1 : valEq v v = true <;> by_cases h2 : t < f.n <;> simp [h0, h1, h2]
theorem sstep_call (gg : FuncId) (args : List Value) : sstep P lib A g all r id f d T Q (some (.call gg args)) = Runs P lib gg args T (fun v T' => (g ≠ 0 → LA.StayA A T T') ∧ scall P lib A (g - 1) all r id f d Q v T') := rfl
theorem scall_some (t : Tmp) (v : Value) (s' : ASt) : scall P lib A g all r id f (some t) Q v s' = if t < f.n then wopsS P lib A all r g id (f.put t v) s' Q else False := by
  simp only [scall, wput_some]
theorem sstep_same (v : Value) : sstep P lib A g all r id f d T Q (some (.val v T)) = scall P lib A (g - 1) all r id f d Q v T := by
  simp only [sstep, scall, LA.StayA.refl, implies_true, true_and]
theorem sstep_val (v : Value) (T' : ASt) : sstep P lib A g all r id f d T Q (some (.val v T')) = ((g ≠ 0 → LA.StayA A T T') ∧ scall P lib A (g - 1) all r id f d Q v T') := rfl
theorem scall_none (v : Value) (s' : ASt) : scall P lib A g all r id f none Q v s' = wopsS P lib A all r g id f s' Q := rfl
theorem smake_eq (v : Value) (bl : Blk) : smake P lib A g all r id f T d Q (some (v, bl)) = scall P lib A g all r (id + 1) f d Q v (T.put id (.blk bl)) := rfl
end
theorem scall_reframe {P : Program} {lib : Prims} {A : Nat → Bool} {g : Nat} {all r : List Oper} {id : Nat} {f : AFr} {d : Option Tmp} {Q : AFr → ASt → Prop} {v : Value} {s' : ASt} (F : AFr → Prop) (h : F f) (k : ∀ f, F f → scall P lib A g all r id f d Q v s') : scall P lib A g all r id f d Q v s' := k f h
def looseB (P : Program) (ops : List Oper) (K0 : Nat) : Bool :=
  let ms := masks ops []
  ops.zipIdx.all fun x =>
    (ops.zipIdx.all fun y => !allocOp P y.1 || (bif Nat.blt y.2 x.2 then !LA.needsS P x.1 || Nat.testBit (nth0 ms x.2) y.2 else !Nat.testBit (nth0 ms x.2) y.2)) &&
    (!(LA.calmOp P x.1 && !pureOp x.1) || (Nat.ble (countP (fun j => !Nat.testBit (nth0 ms j) x.2) P ops 0) K0 && Nat.ble (countP (fun j => Nat.blt j x.2) P ops 0) K0)) &&
    (!(quietOp P x.1 && !LA.calmOp P x.1) || (Nat.ble (countP (fun j => !Nat.testBit (nth0 ms j) x.2) P ops 0) (countP (fun j => Nat.blt j x.2) P ops 0) && Nat.beq (countP (Nat.testBit (nth0 ms x.2)) P ops 0) (countP (fun j => Nat.blt j x.2) P ops 0)))
structure StandsS (A : Nat → Bool) (b : Prop) (s0 : ASt) (K : Nat) (i id : Nat) (as : List (Nat × Nat × Blk)) (T U : ASt) : Prop extends Stands s0 K i id as T U where
  stT : b → LA.StayA A s0 T
  stU : b → LA.StayA A s0 U
  ids : ∀ x ∈ as, A x.2.1 = false
theorem calm_some {P : Program} {o : Oper} {A : Nat → Bool} {s0 : ASt} (h : LA.calmOp P o = true) {f : AFr} {s t : ASt} (hl : LA.lowO o f A = true) (hs : pureOp o = false → LA.StayA A s0 s) (ht : pureOp o = false → LA.StayA A s0 t) {v : Value} {s' : ASt} (ha : aop P o f s = some (.val v s')) : aop P o f t = some (.val v t) := by
  cases hp : pureOp o with
  | true => exact pure_any hp ha
  | false => exact LA.calm_any h hl (hs hp) (ht hp) ha
theorem drawOps_loose {P : Program} {lib : Prims} {all : List Oper} {A : Nat → Bool} (s0 : ASt) (hA : ∀ i, A i = true → i < s0.next) (K0 : Nat) (msA : List Nat) {Q : AFr → ASt → Prop}
    (hcut : ∀ (o : Oper) (i : Nat), all[i]? = some o → LA.calmOp P o = true → pureOp o = false → countP (fun j => !Nat.testBit (nth0 msA j) i) P all 0 ≤ K0 ∧ effs P all i ≤ K0)
    (hwin : ∀ (o : Oper) (i : Nat), all[i]? = some o → quietOp P o = true → LA.calmOp P o = false → countP (fun j => !Nat.testBit (nth0 msA j) i) P all 0 ≤ effs P all i ∧ countP (Nat.testBit (nth0 msA i)) P all 0 = effs P all i)
    (hback : ∀ (o p : Oper) (i j : Nat), all[i]? = some o → all[j]? = some p → allocOp P p = true → j < i → LA.needsS P o = true → Nat.testBit (nth0 msA i) j = true)
    (hfwd : ∀ (o p : Oper) (i j : Nat), all[i]? = some o → all[j]? = some p → allocOp P p = true → i ≤ j → Nat.testBit (nth0 msA i) j = false) :
    ∀ (l pre : List Oper) (ms : List Nat) (id : Nat) (f : AFr) (T U : ASt) (as : List (Nat × Nat × Blk)), all = pre ++ l → ms = msA.drop pre.length → ms.length = l.length → id + allocs P l ≤ s0.next + allocs P all → StandsS A (effs P pre pre.length ≤ K0) s0 (allocs P all) pre.length id as T U → (∀ x ∈ as, ∃ p, all[x.1]? = some p ∧ allocOp P p = true) → wopsS P lib A all l (K0 - effs P pre pre.length) id f U Q →
    ∃ es f' T' U', (∃ n, ∀ m, n ≤ m → drawOps P (acall P lib m) all ms l pre.length id f T as = some es) ∧ (stagesOf P l es T).getLastD T = T' ∧ framesOf l es f = f' ∧ Cl.fill (fun _ => true) T' (as ++ madeOf es pre.length) = U' ∧
      (∀ x ∈ madeOf es pre.length, pre.length ≤ x.1 ∧ ∃ p, all[x.1]? = some p ∧ allocOp P p = true) ∧
      (∀ k x, (stagesOf P l es T)[k]? = some x → effs P pre pre.length + k ≤ K0 → LA.StayA A s0 x) ∧ (∀ sts before, sts = before ++ stagesOf P l es T → (∀ k x, sts[k]? = some x → k ≤ K0 → LA.StayA A s0 x) → before.length = effs P pre pre.length → checkAll P all msA (as ++ madeOf es pre.length) sts ms l es pre.length f = true) ∧ Keeps s0 U' ∧ Q f' U' := by
  intro l
  induction l with
  | nil =>
    intro pre ms id f T U as _ _ hl _ hst _ hw
    rw [wopsS_nil] at hw
    cases ms with
    | cons m r => simp at hl
    | nil => exact ⟨[], f, T, U, ⟨0, fun _ _ => rfl⟩, rfl, rfl, by simp only [madeOf, List.append_nil]; exact hst.fill _ (fun _ _ => rfl), (fun x hx => by simp [madeOf] at hx), (fun k x hx hk => by
      simp only [stagesOf] at hx
      cases k with
      | zero => simp at hx; rw [← hx]; exact hst.stT (by omega)
      | succ k => simp at hx), fun _ _ _ _ _ => rfl, hst.keeps, hw⟩
  | cons o r ih =>
    intro pre ms id f T U as hall hms hl hid hst has hw
    cases ms with
    | nil => simp at hl
    | cons m ms =>
    have hlr : ms.length = r.length := by simpa using hl
    have hall' : all = (pre ++ [o]) ++ r := by rw [hall, List.append_assoc]; rfl
    have hlen' : (pre ++ [o]).length = pre.length + 1 := by simp
    have hms' : ms = msA.drop (pre ++ [o]).length := by
      rw [hlen', ← List.drop_drop, ← hms]; rfl
    have hmA : nth0 msA pre.length = m := by
      have nth0_drop : ∀ (L : List Nat) (k : Nat) (x : Nat) (t : List Nat), L.drop k = x :: t → nth0 L k = x := by
        intro L
        induction L with
        | nil => intro k x t h; simp at h
        | cons y L ihL =>
          intro k x t h
          cases k with
          | zero => simp at h; exact h.1
          | succ k => simp only [List.drop_succ_cons] at h; simp only [nth0]; exact ihL k x t h
      exact nth0_drop msA pre.length m ms hms.symm
    have hget : all[pre.length]? = some o := by rw [hall]; simp
    have heffs : effs P all pre.length = effs P pre pre.length := by rw [hall, effs_append]
    have hsn := effs_snoc P o pre
    have hput : ∀ (v : Value) (g' id' : Nat) (U' : ASt), (wput f o.dst v fun f' => wopsS P lib A all r g' id' f' U' Q) → ∃ f1, putD f o.dst v = some f1 ∧ wopsS P lib A all r g' id' f1 U' Q := by
      intro v g' id' U' h
      unfold wput at h
      split at h
      · exact ⟨_, ‹_›, h⟩
      · exact h.elim
    have hsnE : ∀ b : Bool, effectOp P o = b → effs P (pre ++ [o]) (pre ++ [o]).length = if b then effs P pre pre.length + 1 else effs P pre pre.length := fun b hb => by rw [hsn, hb]
    have hallocs : allocs P (o :: r) = if allocOp P o then allocs P r + 1 else allocs P r := rfl
    
    have hfillU : LA.needsS P o = true → Cl.fill (Nat.testBit m) T as = U := fun hn => hst.fill _ (fun x hx => by
      obtain ⟨p, hp, hpa⟩ := has x hx
      rw [← hmA]
      exact hback o p pre.length x.1 hget hp hpa (hst.before x hx) hn)
    rw [wopsS_cons] at hw
    cases hwa : wantedA all o f with
    | false =>
      rw [hwa] at hw
      obtain ⟨f1, hp, hw⟩ := hput _ _ _ _ hw
      have hst' : StandsS A (effs P (pre ++ [o]) (pre ++ [o]).length ≤ K0) s0 (allocs P all) (pre ++ [o]).length (if allocOp P o then id + 1 else id) as T U := by
        refine ⟨⟨hst.fill, hst.here, fun x hx => by have := hst.before x hx; omega, by have := hst.lo; split <;> omega, fun k hk hk2 => hst.free k (by split at hk <;> omega) hk2, hst.next, hst.keeps⟩, fun h => hst.stT (by rw [hsn] at h; split at h <;> omega), fun h => hst.stU (by rw [hsn] at h; split at h <;> omega), hst.ids⟩
      obtain ⟨es, f', T', U', ⟨n, h1⟩, h3, h4, hf, hmd, hsts, h5, hk, h6⟩ := ih (pre ++ [o]) ms _ f1 T U as hall' hms' hlr (by rw [hallocs] at hid; split <;> split at hid <;> first | omega | contradiction) hst' has (by rw [hsn]; cases he : effectOp P o <;> simp only [he, Bool.false_eq_true, if_false, if_true] at hw ⊢ <;> first | exact hw | (rw [Nat.sub_add_eq]; exact hw))
      rw [hlen'] at h1 h5 hf hmd
      refine ⟨.skip :: es, f', T', U', ⟨n, fun q hq => ?_⟩, ?_, by simp only [framesOf, Ev.val, hp, h4], by simp only [madeOf]; exact hf, (fun x hx => by simp only [madeOf] at hx; obtain ⟨a, b⟩ := hmd x hx; exact ⟨by omega, b⟩), (fun k x hx hk => by
        simp only [stagesOf] at hx
        split at hx
        · rename_i he
          cases k with
          | zero => simp at hx; rw [← hx]; exact hst.stT (by omega)
          | succ k => exact hsts k x (by simpa using hx) (by rw [hsn, if_pos he]; omega)
        · rename_i he
          exact hsts k x hx (by rw [hsn, if_neg he]; omega)), fun sts before hs hss hb => ?_, hk, h6⟩
      · simp only [drawOps, drawOp, hwa, Ev.val, hp]
        rw [h1 q hq]
      · simp only [stagesOf]
        split
        · obtain ⟨rr, hr⟩ := stages_head P r es T
          rw [hr] at h3 ⊢
          rw [List.getLastD_cons] at h3 ⊢
          rw [List.getLastD_cons]; exact h3
        · exact h3
      · simp only [checkAll, Ev.val, hp, Bool.true_and, madeOf]
        simp only [stagesOf] at hs
        split at hs
        · rename_i he
          refine h5 sts (before ++ [T]) (by rw [hs, List.append_assoc]; rfl) hss ?_
          rw [← hlen', hsn, if_pos he, List.length_append, hb]; rfl
        · rename_i he
          refine h5 sts before hs hss ?_
          rw [← hlen', hsn, if_neg he, hb]
    | true =>
      rw [hwa] at hw
      cases hq : quietOp P o with
      | true =>
        simp only [swant, hq, cond_true] at hw
        have hne := quiet_not_effect hq
        have hna := quiet_not_alloc hq
        rw [hallocs, if_neg (by simp [hna])] at hid
        unfold slook at hw
        split at hw
        case h_2 => exact hw.elim
        rename_i v s1 hop
        obtain ⟨hlo, hv, hw⟩ := hw
        obtain ⟨f1, hp, hw⟩ := hput _ _ _ _ hw
        have hst' : StandsS A (effs P (pre ++ [o]) (pre ++ [o]).length ≤ K0) s0 (allocs P all) (pre ++ [o]).length id as T U := ⟨⟨hst.fill, hst.here, fun x hx => by have := hst.before x hx; omega, hst.lo, hst.free, hst.next, hst.keeps⟩, fun h => hst.stT (by rw [hsnE _ hne] at h; simpa using h), fun h => hst.stU (by rw [hsnE _ hne] at h; simpa using h), hst.ids⟩
        obtain ⟨es, f', T', U', ⟨n, h1⟩, h3, h4, hf, hmd, hsts, h5, hk, h6⟩ := ih (pre ++ [o]) ms id f1 T U as hall' hms' hlr hid hst' has (by rw [hsnE _ hne]; exact hw)
        rw [hlen'] at h1 h5 hf hmd
        have hle : LA.calmOp P o = true → pureOp o = false → countP (fun j => !Nat.testBit (nth0 msA j) pre.length) P all 0 ≤ K0 ∧ effs P pre pre.length ≤ K0 := fun h1 h2 => by rw [← heffs]; exact hcut o pre.length hget h1 h2
        
        have hsee : ∃ s2, aop P o f (Cl.fill (Nat.testBit m) T as) = some (.val v s2) := by
          cases hpu : LA.calmOp P o with
          | true => exact ⟨_, calm_some hpu hlo (fun h => hst.stU (hle hpu h).2) (fun h => (hst.stT (hle hpu h).2).trans (LA.fill_stay _ _ _ _ hst.ids)) hop⟩
          | false => exact ⟨s1, by rw [hfillU (by simp [LA.needsS, hpu, hna])]; exact hop⟩
        obtain ⟨s2, hsee⟩ := hsee
        refine ⟨.quiet v :: es, f', T', U', ⟨n, fun q hqm => ?_⟩, ?_, by simp only [framesOf, Ev.val, hp, h4], by simp only [madeOf]; exact hf, (fun x hx => by simp only [madeOf] at hx; obtain ⟨a, b⟩ := hmd x hx; exact ⟨by omega, b⟩), (fun k x hx hk => hsts k x (by simpa [stagesOf, hne] using hx) (by rw [hsnE _ hne]; simpa using hk)), fun sts before hs hss hb => ?_, hk, h6⟩
        · simp only [drawOps, drawOp, hwa, hq, hsee, Ev.val, hp, hna]
          rw [if_neg (by simp), h1 q hqm]
        · simp only [stagesOf, hne]; simpa using h3
        · have hs' : sts = before ++ stagesOf P r es T := by simpa [stagesOf, hne] using hs
          simp only [checkAll, Ev.val, hp, madeOf]
          rw [h5 sts before hs' hss (by rw [← hlen', hsn, if_neg (by simp [hne]), hb]), Bool.and_true]
          
          have hfw : ∀ X : ASt, Cl.fill (Nat.testBit m) X (as ++ madeOf es (pre.length + 1)) = Cl.fill (Nat.testBit m) X as := by
            intro X
            rw [fill_append, fill_none _ (madeOf es (pre.length + 1))]
            intro x hx
            obtain ⟨a, p, hp', hpa⟩ := hmd x hx
            rw [← hmA]
            exact hfwd o p pre.length x.1 hget hp' hpa (by omega)
          have hsame : ∀ (L : List ASt), (LA.calmOp P o = true → pureOp o = false → ∀ x ∈ L, LA.StayA A s0 x) → (LA.calmOp P o = false → ∀ x ∈ L, x = T) → sameAt P m (as ++ madeOf es (pre.length + 1)) o f v L = true := by
            intro L
            induction L with
            | nil => intro _ _; rfl
            | cons x L ihL =>
              intro hx2 hx
              simp only [sameAt, hfw]
              have : ∃ s3, aop P o f (Cl.fill (Nat.testBit m) x as) = some (.val v s3) := by
                cases hpu : LA.calmOp P o with
                | true => exact ⟨_, calm_some hpu hlo (fun h => hst.stU (hle hpu h).2) (fun h => (hx2 hpu h x (List.mem_cons_self ..)).trans (LA.fill_stay _ _ _ _ hst.ids)) hop⟩
                | false => rw [hx hpu x (List.mem_cons_self ..)]; exact ⟨s2, hsee⟩
              obtain ⟨s3, hs3⟩ := this
              rw [hs3]
              simp only [hv, Bool.true_and]
              exact ihL (fun h1 h2 y hy => hx2 h1 h2 y (List.mem_cons_of_mem _ hy)) (fun hpu y hy => hx hpu y (List.mem_cons_of_mem _ hy))
          refine hsame _ (fun h1 h2 x hx => ?_) (fun hpu x hx => ?_)
          · obtain ⟨k, hk⟩ := List.getElem?_of_mem (List.mem_of_mem_drop hx)
            rw [List.getElem?_take] at hk
            split at hk
            · rename_i hkl
              have := (hle h1 h2).1
              exact hss k x hk (by omega)
            · cases hk
          obtain ⟨t1, t2⟩ := hwin o pre.length hget hq hpu
          rw [hmA] at t2
          rw [t2] at hx
          obtain ⟨rr, hr⟩ := stages_head P r es T
          rw [heffs, ← hb, List.drop_take, hs', hr, List.drop_left] at hx
          have hk1 : countP (fun j => !Nat.testBit (nth0 msA j) pre.length) P all 0 + 1 - before.length ≤ 1 := by omega
          generalize countP (fun j => !Nat.testBit (nth0 msA j) pre.length) P all 0 + 1 - before.length = k at hx hk1
          cases k with
          | zero => simp at hx
          | succ k =>
            obtain rfl : k = 0 := by omega
            simpa using hx
      | false =>
        cases ha : allocOp P o with
        | true =>
          simp only [swant, hq, ha, cond_true, cond_false] at hw
          rw [hallocs, if_pos ha] at hid
          have hne : effectOp P o = false := by simp [effectOp, ha]
          unfold smake at hw
          split at hw
          case h_2 => exact hw.elim
          rename_i v b hop
          obtain ⟨f1, hp, hw⟩ := hput _ _ _ _ hw
          have hop' : ∃ s1, aop P o f ⟨.nil, id⟩ = some (.val v s1) ∧ s1.blk? id = some b := by
            unfold valloc at hop
            split at hop
            · rename_i v1 s1 h1
              split at hop
              · rename_i b1 hb1
                injection hop with hop; injection hop with e1 e2; subst e1; subst e2
                exact ⟨s1, h1, hb1⟩
              · cases hop
            · cases hop
          obtain ⟨s1, ho1, ho2⟩ := hop'
          have hfree := hst.free id (Nat.le_refl _) (by omega)
          have hlt : id < U.next := by have := hst.next; omega
          have hst' : StandsS A (effs P (pre ++ [o]) (pre ++ [o]).length ≤ K0) s0 (allocs P all) (pre ++ [o]).length (id + 1) (as ++ [(pre.length, id, b)]) T (U.put id (.blk b)) := by
            refine ⟨⟨fun p hp => ?_, fun x hx => ?_, fun x hx => ?_, by have := hst.lo; omega, fun k hk hk2 => ?_, by have := hst.next; simpa [ASt.put] using this, ?_⟩, fun h => hst.stT (by rw [hsnE _ hne] at h; simpa using h), fun h => (hst.stU (by rw [hsnE _ hne] at h; simpa using h)).trans ⟨Nat.le_refl _, fun i hi => ASt.get_put_ne _ _ _ _ (by have := hst.lo; have := hA i hi; omega)⟩, fun x hx => ?_⟩
            · rw [fill_append, hst.fill p (fun x hx => hp x (List.mem_append_left _ hx))]
              have hpi : p pre.length = true := hp (pre.length, id, b) (List.mem_append_right _ (List.mem_cons_self ..))
              simp only [Cl.fill, hpi, hfree]
            · rcases List.mem_append.mp hx with hx | hx
              · have hh := hst.here x hx
                have : x.2.1 ≠ id := fun e => hh (by rw [e]; exact hfree)
                rw [ASt.get_put_ne _ _ _ _ (Ne.symm this)]; exact hh
              · rw [List.mem_singleton] at hx; subst hx
                simp only [ASt.put, Tr.get_set_self _ _ _ _ (deep (by omega))]; simp
            · rcases List.mem_append.mp hx with hx | hx
              · have := hst.before x hx; omega
              · rw [List.mem_singleton] at hx; subst hx; simp
            · rw [ASt.get_put_ne _ _ _ _ (by omega)]; exact hst.free k (by omega) hk2
            · have hk := hst.keeps
              refine ⟨hk.next, fun j hj hn => ?_, fun j hj => ?_, ⟨by omega, fun j ob hj => ?_⟩⟩
              · have := hst.lo
                rw [ASt.get_put_ne _ _ _ _ (by omega)]; exact hk.gone j hj hn
              · by_cases hji : id = j
                · subst hji; simp only [ASt.put, Tr.get_set_self _ _ _ _ (deep (by omega))]; simp
                · rw [ASt.get_put_ne _ _ _ _ hji]; exact hk.here j hj
              · by_cases hji : id = j
                · subst hji; simpa [ASt.put] using hlt
                · rw [ASt.get_put_ne _ _ _ _ hji] at hj; have := hk.wf.bound j ob hj; simpa [ASt.put] using this
            · rcases List.mem_append.mp hx with hx | hx
              · exact hst.ids x hx
              · rw [List.mem_singleton] at hx; subst hx; exact (by cases hAi : A id with | false => rfl | true => (have := hA id hAi; have := hst.lo; omega))
          have has' : ∀ x ∈ as ++ [(pre.length, id, b)], ∃ p, all[x.1]? = some p ∧ allocOp P p = true := by
            intro x hx
            rcases List.mem_append.mp hx with hx | hx
            · exact has x hx
            · rw [List.mem_singleton] at hx; subst hx; exact ⟨o, hget, ha⟩
          obtain ⟨es, f', T', U', ⟨n, h1⟩, h3, h4, hf, hmd, hsts, h5, hk, h6⟩ := ih (pre ++ [o]) ms (id + 1) f1 T _ _ hall' hms' hlr (by omega) hst' has' (by rw [hsnE _ hne]; exact hw)
          rw [hlen'] at h1 h5 hf hmd
          have hap : ∀ L, as ++ (pre.length, id, b) :: L = (as ++ [(pre.length, id, b)]) ++ L := fun L => by rw [List.append_assoc]; rfl
          refine ⟨.made v id b :: es, f', T', U', ⟨n, fun q hqm => ?_⟩, ?_, by simp only [framesOf, Ev.val, hp, h4], by simp only [madeOf]; rw [hap]; exact hf, (fun x hx => ?_), (fun k x hx hk => hsts k x (by simpa [stagesOf, hne] using hx) (by rw [hsnE _ hne]; simpa using hk)), fun sts before hs hss hb => ?_, hk, h6⟩
          · simp only [drawOps, drawOp, hwa, hq, ha, ho1, ho2, Ev.val, hp, if_true]
            rw [h1 q hqm]
          · simp only [stagesOf, hne]; simpa using h3
          · simp only [madeOf] at hx
            rcases List.mem_cons.mp hx with rfl | hx
            · exact ⟨Nat.le_refl _, o, hget, ha⟩
            · obtain ⟨a, c⟩ := hmd x hx; exact ⟨by omega, c⟩
          · simp only [checkAll, Ev.val, hp, Bool.true_and, madeOf]
            rw [hap]
            have hs' : sts = before ++ stagesOf P r es T := by simpa [stagesOf, hne] using hs
            exact h5 sts before hs' hss (by rw [← hlen', hsn, if_neg (by simp [hne]), hb])
        | false =>
          simp only [swant, hq, ha, cond_false] at hw
          rw [hallocs, if_neg (by simp [ha])] at hid
          have he : effectOp P o = true := by simp [effectOp, hq, ha]
          have hpu : LA.calmOp P o = false := by
            cases hpu : LA.calmOp P o with
            | false => rfl
            | true => rw [LA.cut_quiet hpu] at hq; cases hq
          have hU := hfillU (by simp [LA.needsS, hpu, ha])
          have fin : ∀ (v : Value) (U1 : ASt) (n0 : Nat), (∀ q, n0 ≤ q → drawOp P (acall P lib q) all m id as o f T = some (.eff v U1)) → Keeps U U1 → (K0 - effs P pre pre.length ≠ 0 → LA.StayA A U U1) → (wput f o.dst v fun f' => wopsS P lib A all r (K0 - effs P pre pre.length - 1) id f' U1 Q) →
              ∃ es f' T' U', (∃ n, ∀ m', n ≤ m' → drawOps P (acall P lib m') all (m :: ms) (o :: r) pre.length id f T as = some es) ∧ (stagesOf P (o :: r) es T).getLastD T = T' ∧ framesOf (o :: r) es f = f' ∧ Cl.fill (fun _ => true) T' (as ++ madeOf es pre.length) = U' ∧
                (∀ x ∈ madeOf es pre.length, pre.length ≤ x.1 ∧ ∃ p, all[x.1]? = some p ∧ allocOp P p = true) ∧
                (∀ k x, (stagesOf P (o :: r) es T)[k]? = some x → effs P pre pre.length + k ≤ K0 → LA.StayA A s0 x) ∧ (∀ sts before, sts = before ++ stagesOf P (o :: r) es T → (∀ k x, sts[k]? = some x → k ≤ K0 → LA.StayA A s0 x) → before.length = effs P pre pre.length → checkAll P all msA (as ++ madeOf es pre.length) sts (m :: ms) (o :: r) es pre.length f = true) ∧ Keeps s0 U' ∧ Q f' U' := by
            intro v U1 n0 hd hkU hkS hw
            obtain ⟨f1, hp, hw⟩ := hput _ _ _ _ hw
            have hhere : ∀ x ∈ as, U1.heap.get x.2.1 ≠ none := fun x hx => hkU.here _ (hst.here x hx)
            have hst' : StandsS A (effs P (pre ++ [o]) (pre ++ [o]).length ≤ K0) s0 (allocs P all) (pre ++ [o]).length id as U1 U1 := by
              refine ⟨⟨fun p hp => fill_here p as U1 hhere, hhere, fun x hx => by have := hst.before x hx; omega, hst.lo, fun k hk hk2 => hkU.gone k (by have := hst.next; omega) (hst.free k hk hk2), by have := hst.next; have := hkU.next; omega, hst.keeps.trans hkU⟩, fun h => (hst.stU (by rw [hsnE _ he] at h; simp at h; omega)).trans (hkS (by rw [hsnE _ he] at h; simp at h; omega)), fun h => (hst.stU (by rw [hsnE _ he] at h; simp at h; omega)).trans (hkS (by rw [hsnE _ he] at h; simp at h; omega)), hst.ids⟩
            obtain ⟨es, f', T', U', ⟨n, h1⟩, h3, h4, hf, hmd, hsts, h5, hk, h6⟩ := ih (pre ++ [o]) ms id f1 U1 U1 as hall' hms' hlr hid hst' has (by rw [hsnE _ he, if_pos rfl, Nat.sub_add_eq]; exact hw)
            rw [hlen'] at h1 h5 hf hmd
            refine ⟨.eff v U1 :: es, f', T', U', ⟨n + n0, fun q hqm => ?_⟩, ?_, by simp only [framesOf, Ev.val, hp, h4], by simp only [madeOf]; exact hf, (fun x hx => by simp only [madeOf] at hx; obtain ⟨a, b⟩ := hmd x hx; exact ⟨by omega, b⟩), (fun k x hx hk => by
              simp only [stagesOf] at hx
              cases k with
              | zero => simp at hx; rw [← hx]; exact hst.stT (by omega)
              | succ k => exact hsts k x (by simpa using hx) (by rw [hsnE _ he, if_pos rfl]; omega)), fun sts before hs hss hb => ?_, hk, h6⟩
            · simp only [drawOps, hd q (by omega), Ev.val, hp, ha]
              rw [if_neg (by simp), h1 q (by omega)]
            · simp only [stagesOf]
              obtain ⟨rr, hr⟩ := stages_head P r es U1
              rw [hr] at h3 ⊢
              rw [List.getLastD_cons] at h3 ⊢
              rw [List.getLastD_cons]; exact h3
            · simp only [checkAll, Ev.val, hp, Bool.true_and, madeOf]
              simp only [stagesOf] at hs
              refine h5 sts (before ++ [T]) (by rw [hs, List.append_assoc]; rfl) hss ?_
              rw [← hlen', hsn, if_pos he, List.length_append, hb]; rfl
          unfold sstep at hw
          split at hw
          case h_3 => exact hw.elim
          · rename_i v U1 hop
            obtain ⟨hkS, hw⟩ := hw
            exact fin v U1 0 (fun q _ => by simp only [drawOp, hwa, hq, ha, hU, hop]) (aop_keeps hst.keeps.wf hop) hkS hw
          · rename_i g args hop
            obtain ⟨v, U1, ⟨nc, hc⟩, hkU, hkS, hw⟩ := hw hst.keeps.wf
            exact fin v U1 nc (fun q hqm => by simp only [drawOp, hwa, hq, ha, hU, hop, hc q hqm]) hkU hkS hw
theorem Drawn.loose {P : Program} {lib : Prims} {ops : List Oper} {A : Nat → Bool} (K0 : Nat) (ht : looseB P ops K0 = true) {f : AFr} {s : ASt} {Q : AFr → ASt → Prop} (hA : ∀ i, A i = true → i < s.next) (h : wopsS P lib A ops ops K0 s.next f (spare s (allocs P ops)) Q) : Drawn P lib ops f s Q := by
  intro hwf
  simp only [looseB, List.all_eq_true, Bool.and_eq_true, Bool.or_eq_true, Bool.not_eq_true'] at ht
  have hmem : ∀ (o : Oper) (i : Nat), ops[i]? = some o → (o, i) ∈ ops.zipIdx := fun o i hi => by rw [List.mem_zipIdx_iff_getElem?]; simpa using hi
  have hms : (masks ops []).length = ops.length := by
    obtain ⟨r, h1, h2⟩ := masks_pre ops []
    rw [h1]; simpa using h2
  have hfree : ∀ k, s.next ≤ k → s.heap.get k = none := fun k hk1 => by
    cases hg : s.heap.get k with
    | none => rfl
    | some o => have := hwf.bound k o hg; omega
  have hk0 : Keeps s (spare s (allocs P ops)) := ⟨by simp [spare], fun _ _ h => h, fun _ h => h, ⟨by omega, fun j o hj => by have := hwf.bound j o hj; simp only [spare]; omega⟩⟩
  obtain ⟨es, f', T', U', ⟨n, h1⟩, h3, h4, hf, hmd, hsts, h5, hk, h6⟩ := drawOps_loose (P := P) (lib := lib) (all := ops) (A := A) s hA K0 (masks ops []) (Q := Q) (fun o i hi hc hp => by
      have := (ht (o, i) (hmem o i hi)).1.2
      have hcb := countP_before P ops 0 i
      rw [Nat.zero_add] at hcb
      rcases this with h | h
      · simp [hc, hp] at h
      · obtain ⟨t1, t2⟩ := h
        rw [hcb] at t2
        exact ⟨by simpa [Nat.ble_eq] using t1, by simpa [Nat.ble_eq] using t2⟩)
    (fun o i hi hq hp => by
      have := (ht (o, i) (hmem o i hi)).2
      have hcb := countP_before P ops 0 i
      rw [Nat.zero_add] at hcb
      rcases this with h | h
      · simp [hq, hp] at h
      · obtain ⟨t1, t2⟩ := h
        rw [hcb] at t1 t2
        exact ⟨by simpa [Nat.ble_eq] using t1, by simpa [Nat.beq_eq] using t2⟩)
    (fun o p i j hi hj ha hji hn => by
      have := (ht (o, i) (hmem o i hi)).1.1 (p, j) (hmem p j hj)
      have hb : Nat.blt j i = true := by simpa [Nat.blt_eq] using hji
      simp only [ha, hb, cond_true, hn] at this
      simpa using this)
    (fun o p i j hi hj ha hij => by
      have := (ht (o, i) (hmem o i hi)).1.1 (p, j) (hmem p j hj)
      have hb : Nat.blt j i = false := by rw [← Bool.not_eq_true, Nat.blt_eq]; omega
      simp only [ha, hb, cond_false] at this
      simpa using this)
    ops [] (masks ops []) s.next f (spare s (allocs P ops)) (spare s (allocs P ops)) [] rfl rfl hms (by omega)
    ⟨⟨fun _ _ => rfl, fun _ hx => (by cases hx), fun _ hx => (by cases hx), Nat.le_refl _, fun k hk1 _ => hfree k hk1, by simp [spare], hk0⟩, fun _ => LA.Stay.toA hA (Stay.spare _ _), fun _ => LA.Stay.toA hA (Stay.spare _ _), fun _ hx => (by cases hx)⟩ (fun _ hx => (by cases hx)) h
  simp only [List.nil_append, List.length_nil] at h1 h5 hf hmd
  refine ⟨f', U', ⟨n, fun m hm => ?_⟩, hk, h6⟩
  unfold drawRun
  have h1' := h1 m hm
  have hb : Nat.ble 0 16000000 = true := rfl
  simp only [hb]
  show (match drawOps P (acall P lib m) ops (masks ops []) ops 0 s.next f (spare s (allocs P ops)) [] with
    | some es => match checkAll P ops (masks ops []) (madeOf es 0) (stagesOf P ops es (spare s (allocs P ops))) (masks ops []) ops es 0 f with
      | true => some (framesOf ops es f, Cl.fill (fun _ => true) ((stagesOf P ops es (spare s (allocs P ops))).getLastD s) (madeOf es 0))
      | false => none
    | none => none) = _
  rw [h1']
  have h5' := h5 (stagesOf P ops es (spare s (allocs P ops))) [] rfl (fun k x hx hk => hsts k x hx (by simpa [effs] using hk)) rfl
  simp only [h5', h4]
  obtain ⟨rr, hr⟩ := stages_head P ops es (spare s (allocs P ops))
  rw [hr] at h3 ⊢
  rw [List.getLastD_cons] at h3 ⊢
  rw [h3, hf]
theorem Drawn.looseK {P : Program} {lib : Prims} {ops : List Oper} {f : AFr} {s : ASt} {Q : AFr → ASt → Prop} (A : Nat → Bool) (hA : ∀ i, A i = true → i < s.next) (g k : Nat) (ht : looseB P ops g = true) (hk : Nat.beq (allocs P ops) k = true) (h : wopsS P lib A ops ops g s.next f (spare s k) Q) : wdraw P lib ops f s Q false := by
  have : allocs P ops = k := by simpa [Nat.beq_eq] using hk
  exact Drawn.loose g ht hA (by rw [this]; exact h)
section
variable {P : Program} {lib : Prims} {A : Nat → Bool} {g : Nat} {all r : List Oper} {id : Nat} {f : AFr} {T : ASt} {d : Option Tmp} {Q : AFr → ASt → Prop}
theorem smake_newSlice {cs : List Value} {n z base : Nat} (h : cs.length = n * z) (hid : id < T.next) (hb : base ≤ id)
    (K : ∀ v T', Own T' z v n cs → idOf v = some id → Stay base T T' → T'.next = T.next → (∀ j, j ≠ id → T'.heap.get j = T.heap.get j) → scall P lib A g all r (id + 1) f d Q v T') : smake P lib A g all r id f T d Q (valloc id (pOf (newSlice ⟨.nil, id⟩ cs n z))) := by
  have e : valloc id (pOf (newSlice ⟨.nil, id⟩ cs n z)) = some (.slice (some ⟨id, 0, none⟩) n (cs.length + 1), ⟨cs, 1, true, z⟩) := by
    have : newSlice ⟨.nil, id⟩ cs n z = some (.slice (some ⟨id, 0, none⟩) n (cs.length + 1), (⟨.nil, id⟩ : ASt).new (.blk ⟨cs, 1, true, z⟩)) := by simp [newSlice, ASt.room]
    rw [this, pOf_some]
    have hb : ((⟨.nil, id⟩ : ASt).new (.blk ⟨cs, 1, true, z⟩)).blk? id = some ⟨cs, 1, true, z⟩ := blk_new ⟨.nil, id⟩ _
    simp only [valloc, hb]
  rw [e, smake_eq]
  have hoth : ∀ j, j ≠ id → (T.put id (.blk ⟨cs, 1, true, z⟩)).heap.get j = T.heap.get j := fun j hj => ASt.get_put_ne _ _ _ _ (Ne.symm hj)
  refine K _ _ (.of id n 1 cs (by simpa [ASt.put] using hid) (ASt.blk?_put_self _ _ _ (by omega)) (by omega) h) rfl ⟨Nat.le_refl _, fun j hj => hoth j (by omega)⟩ rfl hoth
theorem sstep_append {st xt e : TypeId} {xd : TypeDesc} {z by8 : Nat} {zv : Value} (hu : P.underlying st = some (.slice e)) (hux : P.underlying xt = some xd) (hxd : (∃ e2, xd = .slice e2) ∨ xd = .string) (hsz : sizeB P e = some z) (hby : bytesB P e = some by8) (hzv : zeroB P e = some zv) (hzl : Nat.beq zv.cells.toList.length z = true)
    {x y : Value} {n m : Nat} {l new : List Value} (hx : Own T z x n l) (hy : srcCells T z y = some (m, new)) (hnew : new.length = m * z) (hz0 : 0 < z) (hok : new.all okCell = true) (hb1 : (n + m) * by8 ≤ 140737488355328) (hb2 : n + m ≤ 140737488355328) {base : Nat} (hF : Fresh base x) (hB : base ≤ T.next) (hA1 : g ≠ 0 → ∀ i, idOf x = some i → A i = false) (hA2 : ∀ i, A i = true → i < T.next)
    (K : ∀ x' T', Own T' z x' (n + m) (l ++ new) → Fresh base x' → Turns x T T' → (idOf x' = idOf x ∨ ∃ i, idOf x' = some i ∧ T.next ≤ i) → scall P lib A (g - 1) all r id f d Q x' T') : sstep P lib A g all r id f d T Q (pOf (appendA P T st xt x y)) := by
  obtain ⟨x', s', h1, h2, h3, h4⟩ := Own.append hu hux hxd hsz hby hzv hzl hx hy hnew hz0 hok hb1 hb2
  rw [h1, pOf_some]
  have hk : g ≠ 0 → LA.StayA A T s' := fun hg => ⟨h3.next, fun i hi => h3.get i (hA2 i hi) (fun e => by have := hA1 hg i e; rw [hi] at this; cases this)⟩
  refine ⟨hk, K _ _ h2 (fun i hi => ?_) h3 h4⟩
  rcases h4 with h4 | ⟨j, hj, hl⟩
  · exact hF i (by rw [← h4]; exact hi)
  · rw [hj] at hi; injection hi with hi; omega
end
end LB
theorem allB : type_of%
  (And.intro (And.intro (And.intro @LB.wopsS_nil @LB.wopsS_cons) (And.intro @LB.swant_ite @LB.swant_false_some)) (And.intro (And.intro @LB.slook_val
  @LB.scall_some) (And.intro @LB.scall_none (And.intro @LB.sstep_call @LB.sstep_same)))) :=
  (And.intro (And.intro (And.intro @LB.wopsS_nil @LB.wopsS_cons) (And.intro @LB.swant_ite @LB.swant_false_some)) (And.intro (And.intro @LB.slook_val
  @LB.scall_some) (And.intro @LB.scall_none (And.intro @LB.sstep_call @LB.sstep_same))))
end Go.Cl
