/-
 The clean machine, part 20: what a call and a piece of code come to, whatever the fuel beyond some. A reading of code as a sentence.
-/
import Derived.Test.YthlbahnfimigcaaMcB
namespace Go.Cl
theorem Adds.refl (s : ASt) : Adds s s (fun _ => none) := ⟨rfl, fun _ _ h => (by cases h), fun _ => rfl⟩
theorem aop_keeps {P : Program} {o : Oper} {f : AFr} {s : ASt} (hw : WF s) {v : Value} {t : ASt} (h : aop P o f s = some (.val v t)) : Keeps s t := by
 obtain ⟨_, _, _, k⟩ := aop_fr (Adds.refl s) hw h
 exact k
def Runs (P : Program) (lib : Prims) (g : FuncId) (args : List Value) (s : ASt) (Q : Value -> ASt -> Prop) : Prop :=
 WF s -> ∃ v s', (∃ n, ∀ m, n ≤ m -> acall P lib m g args s = some (v, s')) ∧ Keeps s s' ∧ Q v s'
def Comes (P : Program) (lib : Prims) (c : Code) (f : AFr) (s : ASt) (Q : AX -> AFr -> ASt -> Prop) : Prop :=
 WF s -> ∃ x f' s', (∃ n, ∀ m, n ≤ m -> exec P lib m c f s = some (x, f', s')) ∧ Keeps s s' ∧ Q x f' s'
def ComesOps (P : Program) (lib : Prims) (all l : List Oper) (f : AFr) (s : ASt) (Q : AFr -> ASt -> Prop) : Prop :=
 WF s -> ∃ f' s', (∃ n, ∀ m, n ≤ m -> runOps P (acall P lib m) all l f s = some (f', s')) ∧ Keeps s s' ∧ Q f' s'
theorem Runs.mono {P : Program} {lib : Prims} {g : FuncId} {args : List Value} {s : ASt} {Q Q' : Value -> ASt -> Prop} (h : Runs P lib g args s Q) (k : ∀ v s', Q v s' -> Q' v s') : Runs P lib g args s Q' := by
 intro hw
 obtain ⟨v, s', hn, hk, hq⟩ := h hw
 exact ⟨v, s', hn, hk, k _ _ hq⟩
theorem Runs.wf {P : Program} {lib : Prims} {g : FuncId} {args : List Value} {s : ASt} {Q : Value -> ASt -> Prop} (h : WF s -> Runs P lib g args s Q) : Runs P lib g args s Q := fun hw => h hw hw
theorem Comes.mono {P : Program} {lib : Prims} {c : Code} {f : AFr} {s : ASt} {Q Q' : AX -> AFr -> ASt -> Prop} (h : Comes P lib c f s Q) (k : ∀ x f' s', Q x f' s' -> Q' x f' s') : Comes P lib c f s Q' := by
 intro hw
 obtain ⟨x, f', s', hn, hk, hq⟩ := h hw
 exact ⟨x, f', s', hn, hk, k _ _ _ hq⟩
def wput (f : AFr) (d : Option Tmp) (v : Value) (K : AFr -> Prop) : Prop :=
 match putD f d v with
 | some f' => K f'
 | none => False
mutual
def wops (P : Program) (lib : Prims) (all : List Oper) : List Oper -> AFr -> ASt -> (AFr -> ASt -> Prop) -> Prop
 | [], f, s, Q => Q f s
 | o :: r, f, s, Q =>
  match wantedA all o f with
  | true =>
   match aop P o f s with
   | some (.val v s') => wput f o.dst v fun f' => wops P lib all r f' s' Q
   | some (.call g args) => Runs P lib g args s fun v s' => wput f o.dst v fun f' => wops P lib all r f' s' Q
   | none => False
  | false => wput f o.dst undef fun f' => wops P lib all r f' s Q
end
def wstep (P : Program) (lib : Prims) (all r : List Oper) (f : AFr) (s : ASt) (d : Option Tmp) (Q : AFr -> ASt -> Prop) : Option AR -> Prop
 | some (.val v s') => wput f d v fun f' => wops P lib all r f' s' Q
 | some (.call g args) => Runs P lib g args s fun v s' => wput f d v fun f' => wops P lib all r f' s' Q
 | none => False
def wcall (P : Program) (lib : Prims) (all r : List Oper) (f : AFr) (d : Option Tmp) (Q : AFr -> ASt -> Prop) (v : Value) (s' : ASt) : Prop := wput f d v fun f' => wops P lib all r f' s' Q
def wwant (P : Program) (lib : Prims) (all : List Oper) (o : Oper) (r : List Oper) (f : AFr) (s : ASt) (Q : AFr -> ASt -> Prop) : Bool -> Prop
 | true => wstep P lib all r f s o.dst Q (aop P o f s)
 | false => wput f o.dst undef fun f' => wops P lib all r f' s Q
theorem wops_nil (P : Program) (lib : Prims) (all : List Oper) (f : AFr) (s : ASt) (Q : AFr -> ASt -> Prop) : wops P lib all [] f s Q = Q f s := by simp only [wops]
theorem wops_cons (P : Program) (lib : Prims) (all : List Oper) (o : Oper) (r : List Oper) (f : AFr) (s : ASt) (Q : AFr -> ASt -> Prop) : wops P lib all (o :: r) f s Q = wwant P lib all o r f s Q (wantedA all o f) := by
 simp only [wops]
 cases wantedA all o f with
 | false => rfl
 | true =>
  simp only [wwant]
  cases aop P o f s with
  | none => rfl
  | some a => cases a <;> rfl
theorem wwant_true (P : Program) (lib : Prims) (all : List Oper) (o : Oper) (r : List Oper) (f : AFr) (s : ASt) (Q : AFr -> ASt -> Prop) : wwant P lib all o r f s Q true = wstep P lib all r f s o.dst Q (aop P o f s) := rfl
theorem wput_some (f : AFr) (t : Tmp) (v : Value) (K : AFr -> Prop) : wput f (some t) v K = if t < f.n then K (f.put t v) else False := by
 unfold wput putD
 by_cases h : t < f.n
 ·have hb : Nat.blt t f.n = true := by simpa [Nat.blt_eq] using h
  simp only [hb, if_true, if_pos h]
 ·have hb : Nat.blt t f.n = false := by rw [← Bool.not_eq_true, Nat.blt_eq]; exact h
  simp [hb, if_neg h]
theorem wput_none (f : AFr) (v : Value) (K : AFr -> Prop) : wput f none v K = K f := rfl
theorem wwant_false_some (P : Program) (lib : Prims) (all : List Oper) (op : Op) (ty : TypeId) (ps : String) (af : Array Edge) (gd : Option (Nat × Bool)) (r : List Oper) (f : AFr) (s : ASt) (Q : AFr -> ASt -> Prop) (t : Tmp) : wwant P lib all ⟨some t, op, ty, ps, af, gd⟩ r f s Q false = if t < f.n then wops P lib all r (f.put t undef) s Q else False := by
 unfold wwant; simp only; rw [wput_some]
theorem wwant_false_none (P : Program) (lib : Prims) (all : List Oper) (op : Op) (ty : TypeId) (ps : String) (af : Array Edge) (gd : Option (Nat × Bool)) (r : List Oper) (f : AFr) (s : ASt) (Q : AFr -> ASt -> Prop) : wwant P lib all ⟨none, op, ty, ps, af, gd⟩ r f s Q false = wops P lib all r f s Q := rfl
theorem wstep_val (P : Program) (lib : Prims) (all r : List Oper) (f : AFr) (s : ASt) (t : Tmp) (Q : AFr -> ASt -> Prop) (v : Value) (s' : ASt) : wstep P lib all r f s (some t) Q (some (.val v s')) = if t < f.n then wops P lib all r (f.put t v) s' Q else False := by
 simp only [wstep, wput_some]
theorem wstep_val_none (P : Program) (lib : Prims) (all r : List Oper) (f : AFr) (s : ASt) (Q : AFr -> ASt -> Prop) (v : Value) (s' : ASt) : wstep P lib all r f s none Q (some (.val v s')) = wops P lib all r f s' Q := rfl
theorem wstep_call (P : Program) (lib : Prims) (all r : List Oper) (f : AFr) (s : ASt) (d : Option Tmp) (Q : AFr -> ASt -> Prop) (g : FuncId) (args : List Value) : wstep P lib all r f s d Q (some (.call g args)) = Runs P lib g args s (wcall P lib all r f d Q) := rfl
theorem wcall_some (P : Program) (lib : Prims) (all r : List Oper) (f : AFr) (t : Tmp) (Q : AFr -> ASt -> Prop) (v : Value) (s' : ASt) : wcall P lib all r f (some t) Q v s' = if t < f.n then wops P lib all r (f.put t v) s' Q else False := by
 simp only [wcall, wput_some]
theorem wcall_none (P : Program) (lib : Prims) (all r : List Oper) (f : AFr) (Q : AFr -> ASt -> Prop) (v : Value) (s' : ASt) : wcall P lib all r f none Q v s' = wops P lib all r f s' Q := rfl
theorem wops_ok {P : Program} {lib : Prims} (all : List Oper) : ∀ (l : List Oper) (f : AFr) (s : ASt) (Q : AFr -> ASt -> Prop), wops P lib all l f s Q -> ComesOps P lib all l f s Q := by
 intro l
 induction l with
 | nil => intro f s Q h hwf; rw [wops_nil] at h; exact ⟨f, s, ⟨0, fun m _ => rfl⟩, Keeps.refl hwf, h⟩
 | cons o r ih =>
  intro f s Q h hwf
  rw [wops_cons] at h
  have hput : ∀ (v : Value) (s' : ASt), (wput f o.dst v fun f' => wops P lib all r f' s' Q) -> ∃ f1, putD f o.dst v = some f1 ∧ ComesOps P lib all r f1 s' Q := by
   intro v s' h
   unfold wput at h
   split at h
   ·exact ⟨_, ‹_›, ih _ _ _ h⟩
   ·exact h.elim
  cases hw : wantedA all o f with
  | false =>
   rw [hw] at h
   obtain ⟨f1, hp, hc⟩ := hput _ _ h
   obtain ⟨f', s', ⟨n, hn⟩, hk, hq⟩ := hc hwf
   refine ⟨f', s', ⟨n, fun m hm => ?_⟩, hk, hq⟩
   simp only [runOps, hw, hp]
   simpa using hn m hm
  | true =>
   rw [hw] at h
   simp only [wwant] at h
   unfold wstep at h
   split at h
   ·rename_i v s1 hop
    have hk1 := aop_keeps hwf hop
    obtain ⟨f1, hp, hc⟩ := hput _ _ h
    obtain ⟨f', s', ⟨n, hn⟩, hk, hq⟩ := hc hk1.wf
    refine ⟨f', s', ⟨n, fun m hm => ?_⟩, hk1.trans hk, hq⟩
    simp only [runOps, hw, hop, hp]
    simpa using hn m hm
   ·rename_i g args hop
    obtain ⟨v, s1, ⟨n1, h1⟩, hk1, h⟩ := h hwf
    obtain ⟨f1, hp, hc⟩ := hput _ _ h
    obtain ⟨f', s', ⟨n, hn⟩, hk, hq⟩ := hc hk1.wf
    refine ⟨f', s', ⟨n + n1, fun m hm => ?_⟩, hk1.trans hk, hq⟩
    simp only [runOps, hw, hop, h1 m (by omega), hp]
    simpa using hn m (by omega)
   ·exact h.elim
def allQuiet (P : Program) (l : List Oper) : Bool := l.all (quietOp P)
def wquiet (P : Program) (all : List Oper) : List Oper -> AFr -> ASt -> (AFr -> Prop) -> Prop
 | [], f, _, Q => Q f
 | o :: r, f, s, Q =>
  match wantedA all o f with
  | true =>
   match aop P o f s with
   | some (.val v _) => valEq v v = true ∧ wput f o.dst v fun f' => wquiet P all r f' s Q
   | _ => False
  | false => wput f o.dst undef fun f' => wquiet P all r f' s Q
def wlook (P : Program) (all r : List Oper) (f : AFr) (s : ASt) (d : Option Tmp) (Q : AFr -> Prop) : Option AR -> Prop
 | some (.val v _) => valEq v v = true ∧ wput f d v fun f' => wquiet P all r f' s Q
 | _ => False
def wasks (P : Program) (all : List Oper) (o : Oper) (r : List Oper) (f : AFr) (s : ASt) (Q : AFr -> Prop) : Bool -> Prop
 | true => wlook P all r f s o.dst Q (aop P o f s)
 | false => wput f o.dst undef fun f' => wquiet P all r f' s Q
theorem wquiet_nil (P : Program) (all : List Oper) (f : AFr) (s : ASt) (Q : AFr -> Prop) : wquiet P all [] f s Q = Q f := rfl
theorem wquiet_cons (P : Program) (all : List Oper) (o : Oper) (r : List Oper) (f : AFr) (s : ASt) (Q : AFr -> Prop) : wquiet P all (o :: r) f s Q = wasks P all o r f s Q (wantedA all o f) := by
 simp only [wquiet]
 cases wantedA all o f with
 | false => rfl
 | true =>
  simp only [wasks]
  cases aop P o f s with
  | none => rfl
  | some a => cases a <;> rfl
theorem wasks_true (P : Program) (all : List Oper) (o : Oper) (r : List Oper) (f : AFr) (s : ASt) (Q : AFr -> Prop) : wasks P all o r f s Q true = wlook P all r f s o.dst Q (aop P o f s) := rfl
theorem wasks_false_some (P : Program) (all : List Oper) (op : Op) (ty : TypeId) (ps : String) (af : Array Edge) (gd : Option (Nat × Bool)) (r : List Oper) (f : AFr) (s : ASt) (Q : AFr -> Prop) (t : Tmp) : wasks P all ⟨some t, op, ty, ps, af, gd⟩ r f s Q false = if t < f.n then wquiet P all r (f.put t undef) s Q else False := by
 unfold wasks; simp only; rw [wput_some]
theorem wlook_val (P : Program) (all r : List Oper) (f : AFr) (s : ASt) (t : Tmp) (Q : AFr -> Prop) (v : Value) (s' : ASt) : wlook P all r f s (some t) Q (some (.val v s')) = if valEq v v = true ∧ t < f.n then wquiet P all r (f.put t v) s Q else False := by
 simp only [wlook, wput_some]
 by_cases h1 : valEq v v = true <;> by_cases h2 : t < f.n <;> simp [h1, h2]
theorem allQuiet_none {P : Program} : ∀ {l : List Oper}, allQuiet P l = true -> (∀ o ∈ l, quietOp P o = true) ∧ allocs P l = 0 := by
 intro l
 induction l with
 | nil => intro _; exact ⟨fun o h => (by cases h), rfl⟩
 | cons o r ih =>
  intro h
  simp only [allQuiet, List.all_cons, Bool.and_eq_true] at h
  obtain ⟨h1, h2⟩ := ih (by simpa [allQuiet] using h.2)
  have hna : allocOp P o = false := by
   obtain ⟨dst, op, type, pos, after, guard⟩ := o
   cases op <;> simp_all [quietOp, allocOp]
   case convert a b x =>
    simp only [textConv]
    split
    ·rename_i _ e hb; simp_all
    ·rfl
  exact ⟨fun p hp => (List.mem_cons.mp hp).elim (fun e => e ▸ h.1) (fun hp => h1 p hp), by simp [allocs, hna, h2]⟩
theorem quiet_not_alloc {P : Program} {o : Oper} (hq : quietOp P o = true) : allocOp P o = false := by
 have := (allQuiet_none (P := P) (l := [o]) (by simp [allQuiet, hq])).2
 simp only [allocs] at this
 cases h : allocOp P o with
 | false => rfl
 | true => rw [h] at this; simp at this
theorem quiet_not_effect {P : Program} {o : Oper} (hq : quietOp P o = true) : effectOp P o = false := by simp [effectOp, hq]
theorem drawOps_quiet {P : Program} {all : List Oper} {s : ASt} (msA : List Nat) {Q : AFr -> Prop} : ∀ (l : List Oper) (ms : List Nat) (i id : Nat) (f : AFr), (∀ o ∈ l, quietOp P o = true) -> ms.length = l.length -> wquiet P all l f s Q ->
  ∃ es f', (∀ call, drawOps P call all ms l i id f s [] = some es) ∧ (∀ k, madeOf es k = []) ∧ stagesOf P l es s = [s] ∧ framesOf l es f = f' ∧ checkAll P all msA [] [s] ms l es i f = true ∧ Q f' := by
 intro l
 induction l with
 | nil =>
  intro ms i id f _ hl hw
  rw [wquiet_nil] at hw
  cases ms with
  | cons m r => simp at hl
  | nil => exact ⟨[], f, fun _ => rfl, fun _ => rfl, rfl, rfl, rfl, hw⟩
 | cons o r ih =>
  intro ms i id f hq hl hw
  cases ms with
  | nil => simp at hl
  | cons m ms =>
  have hqo := hq o (List.mem_cons_self ..)
  have hna := quiet_not_alloc hqo
  have hne := quiet_not_effect hqo
  have hqr : ∀ p ∈ r, quietOp P p = true := fun p hp => hq p (List.mem_cons_of_mem _ hp)
  have hlr : ms.length = r.length := by simpa using hl
  rw [wquiet_cons] at hw
  have hput : ∀ (v : Value), (wput f o.dst v fun f' => wquiet P all r f' s Q) -> ∃ f1, putD f o.dst v = some f1 ∧ wquiet P all r f1 s Q := by
   intro v h
   unfold wput at h
   split at h
   ·exact ⟨_, ‹_›, h⟩
   ·exact h.elim
  cases hwa : wantedA all o f with
  | false =>
   rw [hwa] at hw
   obtain ⟨f1, hp, hw⟩ := hput _ hw
   obtain ⟨es, f', h1, h2, h3, h4, h5, h6⟩ := ih ms (i + 1) id f1 hqr hlr hw
   refine ⟨.skip :: es, f', fun call => ?_, fun k => ?_, ?_, ?_, ?_, h6⟩
   ·simp only [drawOps, drawOp, hwa, Ev.val, hp, hna]
    rw [if_neg (by simp), h1 call]
   ·simp only [madeOf, h2]
   ·simp only [stagesOf, hne, h3]; simp
   ·simp only [framesOf, Ev.val, hp, h4]
   ·simp only [checkAll, Ev.val, hp, h5]; rfl
  | true =>
   rw [hwa] at hw
   simp only [wasks] at hw
   unfold wlook at hw
   split at hw
   case h_2 => exact hw.elim
   rename_i v s1 hop
   obtain ⟨hv, hw⟩ := hw
   obtain ⟨f1, hp, hw⟩ := hput _ hw
   obtain ⟨es, f', h1, h2, h3, h4, h5, h6⟩ := ih ms (i + 1) id f1 hqr hlr hw
   refine ⟨.quiet v :: es, f', fun call => ?_, fun k => ?_, ?_, ?_, ?_, h6⟩
   ·simp only [drawOps, drawOp, hwa, hqo, Cl.fill, hop, Ev.val, hp, hna]
    rw [if_neg (by simp), h1 call]
   ·simp only [madeOf, h2]
   ·simp only [stagesOf, hne, h3]; simp
   ·simp only [framesOf, Ev.val, hp, h4]
   ·simp only [checkAll, Ev.val, hp, h5, Bool.and_true]
    have hsame : ∀ (L : List ASt), (∀ x ∈ L, x = s) -> sameAt P m [] o f v L = true := by
     intro L
     induction L with
     | nil => intro _; rfl
     | cons x L ihL =>
      intro hx
      obtain rfl := hx x (List.mem_cons_self ..)
      simp only [sameAt, Cl.fill, hop, hv, Bool.true_and]
      exact ihL (fun y hy => hx y (List.mem_cons_of_mem _ hy))
    exact hsame _ (fun x hx => by simpa using List.mem_of_mem_take (List.mem_of_mem_drop hx))
theorem drawRun_quiet {P : Program} {ops : List Oper} (hq : allQuiet P ops = true) {f : AFr} {s : ASt} {Q : AFr -> Prop} (h : wquiet P ops ops f s Q) : ∃ f', (∀ call, drawRun P call ops f s = some (f', s)) ∧ Q f' := by
 obtain ⟨hqs, hal⟩ := allQuiet_none hq
 have hms : (masks ops []).length = ops.length := by
  obtain ⟨r, h1, h2⟩ := masks_pre ops []
  rw [h1]; simpa using h2
 obtain ⟨es, f', h1, h2, h3, h4, h5, h6⟩ := drawOps_quiet (masks ops []) ops (masks ops []) 0 s.next f hqs hms h
 refine ⟨f', fun call => ?_, h6⟩
 have hs : (⟨s.heap, s.next + allocs P ops⟩ : ASt) = s := by rw [hal]; rfl
 unfold drawRun
 rw [hs, h1 call]
 simp only [h2, h3, h5, h4, Cl.fill, List.getLastD]
 rfl
def Drawn (P : Program) (lib : Prims) (ops : List Oper) (f : AFr) (s : ASt) (Q : AFr -> ASt -> Prop) : Prop :=
 WF s -> ∃ f' s', (∃ n, ∀ m, n ≤ m -> drawRun P (acall P lib m) ops f s = some (f', s')) ∧ Keeps s s' ∧ Q f' s'
def wdraw (P : Program) (lib : Prims) (ops : List Oper) (f : AFr) (s : ASt) (Q : AFr -> ASt -> Prop) : Bool -> Prop
 | true => wquiet P ops ops f s (fun f' => Q f' s)
 | false => Drawn P lib ops f s Q
def inBlk (id : Nat) : AX -> AX
 | .exit j => if j = id then .normal else .exit j
 | x => x
def wcode (P : Program) (lib : Prims) : Code -> AFr -> ASt -> (AX -> AFr -> ASt -> Prop) -> Prop
 | .skip, f, s, Q => Q .normal f s
 | .label _, f, s, Q => Q .normal f s
 | .region _ ops d, f, s, Q =>
  match d with
  | false => wops P lib ops.toList ops.toList f s (Q .normal)
  | true => wdraw P lib ops.toList f s (Q .normal) (allQuiet P ops.toList)
 | .seq a b, f, s, Q => wcode P lib a f s fun x f' s' =>
  match x with
  | .normal => wcode P lib b f' s' Q
  | x => Q x f' s'
 | .cond x a b, f, s, Q =>
  match evalA f x with
  | some (.bool t) =>
   match t with
   | true => wcode P lib a f s Q
   | false => wcode P lib b f s Q
  | _ => False
 | .block id a, f, s, Q => wcode P lib a f s fun x f' s' => Q (inBlk id x) f' s'
 | .loop a, f, s, Q => Comes P lib (.loop a) f s Q
 | .exit id, f, s, Q => Q (.exit id) f s
 | .scope a, f, s, Q => wcode P lib a f s Q
 | .ret, f, s, Q => Q .ret f s
 | _, _, _, _ => False
def wthen (P : Program) (lib : Prims) (b : Code) (Q : AX -> AFr -> ASt -> Prop) (x : AX) (f' : AFr) (s' : ASt) : Prop :=
 match x with
 | .normal => wcode P lib b f' s' Q
 | x => Q x f' s'
def wblk (id : Nat) (Q : AX -> AFr -> ASt -> Prop) (x : AX) (f' : AFr) (s' : ASt) : Prop := Q (inBlk id x) f' s'
def wif (P : Program) (lib : Prims) (a b : Code) (f : AFr) (s : ASt) (Q : AX -> AFr -> ASt -> Prop) : Bool -> Prop
 | true => wcode P lib a f s Q
 | false => wcode P lib b f s Q
def wcond (P : Program) (lib : Prims) (a b : Code) (f : AFr) (s : ASt) (Q : AX -> AFr -> ASt -> Prop) : Option Value -> Prop
 | some (.bool t) => wif P lib a b f s Q t
 | _ => False
section
variable (P : Program) (lib : Prims) (f : AFr) (s : ASt) (Q : AX -> AFr -> ASt -> Prop)
theorem wcode_skip : wcode P lib .skip f s Q = Q .normal f s := rfl
theorem wcode_region (id : Nat) (ops : Array Oper) : wcode P lib (.region id ops false) f s Q = wops P lib ops.toList ops.toList f s (Q .normal) := rfl
theorem wcode_draw (id : Nat) (ops : Array Oper) : wcode P lib (.region id ops true) f s Q = wdraw P lib ops.toList f s (Q .normal) (allQuiet P ops.toList) := rfl
theorem wdraw_true (ops : List Oper) (R : AFr -> ASt -> Prop) : wdraw P lib ops f s R true = wquiet P ops ops f s (fun f' => R f' s) := rfl
theorem wcode_seq (a b : Code) : wcode P lib (.seq a b) f s Q = wcode P lib a f s (wthen P lib b Q) := rfl
theorem wthen_normal (b : Code) : wthen P lib b Q .normal f s = wcode P lib b f s Q := rfl
theorem wthen_ret (b : Code) : wthen P lib b Q .ret f s = Q .ret f s := rfl
theorem wthen_exit (b : Code) (id : Nat) : wthen P lib b Q (.exit id) f s = Q (.exit id) f s := rfl
theorem wcode_cond (x : Operand) (a b : Code) : wcode P lib (.cond x a b) f s Q = wcond P lib a b f s Q (evalA f x) := by
 simp only [wcode]
 cases evalA f x with
 | none => rfl
 | some v => cases v <;> first | rfl | (rename_i t; cases t <;> rfl)
theorem wcond_bool (a b : Code) (t : Bool) : wcond P lib a b f s Q (some (.bool t)) = wif P lib a b f s Q t := rfl
theorem wif_true (a b : Code) : wif P lib a b f s Q true = wcode P lib a f s Q := rfl
theorem wif_false (a b : Code) : wif P lib a b f s Q false = wcode P lib b f s Q := rfl
theorem wcode_block (id : Nat) (a : Code) : wcode P lib (.block id a) f s Q = wcode P lib a f s (wblk id Q) := rfl
theorem wblk_normal (id : Nat) : wblk id Q .normal f s = Q .normal f s := rfl
theorem wblk_ret (id : Nat) : wblk id Q .ret f s = Q .ret f s := rfl
theorem wblk_exit (id j : Nat) : wblk id Q (.exit j) f s = if j = id then Q .normal f s else Q (.exit j) f s := by
 simp only [wblk, inBlk]; split <;> rfl
theorem wcode_loop (a : Code) : wcode P lib (.loop a) f s Q = Comes P lib (.loop a) f s Q := rfl
theorem wcode_exit (id : Nat) : wcode P lib (.exit id) f s Q = Q (.exit id) f s := rfl
theorem wcode_scope (a : Code) : wcode P lib (.scope a) f s Q = wcode P lib a f s Q := rfl
theorem wcode_ret : wcode P lib .ret f s Q = Q .ret f s := rfl
end
theorem wif_cases {P : Program} {lib : Prims} {a b : Code} {f : AFr} {s : ASt} {Q : AX -> AFr -> ASt -> Prop} {t : Bool} (h1 : t = true -> wcode P lib a f s Q) (h2 : t = false -> wcode P lib b f s Q) : wif P lib a b f s Q t := by
 cases t
 ·exact h2 rfl
 ·exact h1 rfl
theorem wcode_ok {P : Program} {lib : Prims} : ∀ (c : Code) (f : AFr) (s : ASt) (Q : AX -> AFr -> ASt -> Prop), wcode P lib c f s Q -> Comes P lib c f s Q := by
 intro c
 induction c with
 | skip => intro f s Q h hwf; exact ⟨.normal, f, s, ⟨1, fun m hm => by obtain ⟨k, rfl⟩ : ∃ k, m = k + 1 := ⟨m - 1, by omega⟩; rfl⟩, Keeps.refl hwf, h⟩
 | label l => intro f s Q h hwf; exact ⟨.normal, f, s, ⟨1, fun m hm => by obtain ⟨k, rfl⟩ : ∃ k, m = k + 1 := ⟨m - 1, by omega⟩; rfl⟩, Keeps.refl hwf, h⟩
 | exit id => intro f s Q h hwf; exact ⟨.exit id, f, s, ⟨1, fun m hm => by obtain ⟨k, rfl⟩ : ∃ k, m = k + 1 := ⟨m - 1, by omega⟩; rfl⟩, Keeps.refl hwf, h⟩
 | ret => intro f s Q h hwf; exact ⟨.ret, f, s, ⟨1, fun m hm => by obtain ⟨k, rfl⟩ : ∃ k, m = k + 1 := ⟨m - 1, by omega⟩; rfl⟩, Keeps.refl hwf, h⟩
 | loop a _ => intro f s Q h; exact h
 | rangeFunc => intro f s Q h; exact h.elim
 | goto => intro f s Q h; exact h.elim
 | refuse => intro f s Q h; exact h.elim
 | region id ops d =>
  intro f s Q h hwf
  have fin : ∀ f' s', (∃ n, ∀ m, n ≤ m -> (match d with
    | false => runOps P (acall P lib m) ops.toList ops.toList f s
    | true => drawRun P (acall P lib m) ops.toList f s) = some (f', s')) -> Keeps s s' -> Q .normal f' s' -> ∃ x f' s', (∃ n, ∀ m, n ≤ m -> exec P lib m (.region id ops d) f s = some (x, f', s')) ∧ Keeps s s' ∧ Q x f' s' := by
   rintro f' s' ⟨n, hn⟩ hk hq
   refine ⟨.normal, f', s', ⟨n + 1, fun m hm => ?_⟩, hk, hq⟩
   obtain ⟨k, rfl⟩ : ∃ k, m = k + 1 := ⟨m - 1, by omega⟩
   have := hn k (by omega)
   simp only [exec, step]
   have e : acall P lib k = callStep P lib (exec P lib k) := rfl
   rw [e] at this
   cases d <;> (simp only at this; simp only [this])
  cases d with
  | false =>
   obtain ⟨f', s', hn, hk, hq⟩ := wops_ok _ _ _ _ _ h hwf
   exact fin f' s' hn hk hq
  | true =>
   simp only [wcode] at h
   cases hq : allQuiet P ops.toList with
   | true =>
    rw [hq] at h
    obtain ⟨f', h1, h2⟩ := drawRun_quiet hq h
    exact fin f' s ⟨0, fun m _ => h1 _⟩ (Keeps.refl hwf) h2
   | false =>
    rw [hq] at h
    obtain ⟨f', s', h1, hk, h2⟩ := h hwf
    exact fin f' s' h1 hk h2
 | seq a b iha ihb =>
  intro f s Q h hwf
  obtain ⟨x, f1, s1, ⟨n1, h1⟩, hk1, h⟩ := iha f s _ h hwf
  cases x with
  | normal =>
   obtain ⟨x, f2, s2, ⟨n2, h2⟩, hk2, h⟩ := ihb f1 s1 _ h hk1.wf
   refine ⟨x, f2, s2, ⟨n1 + n2 + 1, fun m hm => ?_⟩, hk1.trans hk2, h⟩
   obtain ⟨k, rfl⟩ : ∃ k, m = k + 1 := ⟨m - 1, by omega⟩
   simp only [exec, step, h1 k (by omega), h2 k (by omega)]
  | exit id =>
   refine ⟨_, f1, s1, ⟨n1 + 1, fun m hm => ?_⟩, hk1, h⟩
   obtain ⟨k, rfl⟩ : ∃ k, m = k + 1 := ⟨m - 1, by omega⟩
   simp only [exec, step, h1 k (by omega)]
  | ret =>
   refine ⟨_, f1, s1, ⟨n1 + 1, fun m hm => ?_⟩, hk1, h⟩
   obtain ⟨k, rfl⟩ : ∃ k, m = k + 1 := ⟨m - 1, by omega⟩
   simp only [exec, step, h1 k (by omega)]
 | cond y a b iha ihb =>
  intro f s Q h hwf
  rw [wcode_cond] at h
  unfold wcond at h
  split at h
  ·rename_i t ht
   cases t with
   | true =>
    obtain ⟨x, f1, s1, ⟨n1, h1⟩, hk1, h⟩ := iha f s _ h hwf
    refine ⟨_, f1, s1, ⟨n1 + 1, fun m hm => ?_⟩, hk1, h⟩
    obtain ⟨k, rfl⟩ : ∃ k, m = k + 1 := ⟨m - 1, by omega⟩
    simp only [exec, step, ht, h1 k (by omega)]
   | false =>
    obtain ⟨x, f1, s1, ⟨n1, h1⟩, hk1, h⟩ := ihb f s _ h hwf
    refine ⟨_, f1, s1, ⟨n1 + 1, fun m hm => ?_⟩, hk1, h⟩
    obtain ⟨k, rfl⟩ : ∃ k, m = k + 1 := ⟨m - 1, by omega⟩
    simp only [exec, step, ht, h1 k (by omega)]
  ·exact h.elim
 | block id a iha =>
  intro f s Q h hwf
  obtain ⟨x, f1, s1, ⟨n1, h1⟩, hk1, h⟩ := iha f s _ h hwf
  refine ⟨_, f1, s1, ⟨n1 + 1, fun m hm => ?_⟩, hk1, h⟩
  obtain ⟨k, rfl⟩ : ∃ k, m = k + 1 := ⟨m - 1, by omega⟩
  simp only [exec, step, h1 k (by omega)]
  cases x with
  | normal => rfl
  | ret => rfl
  | exit j =>
   simp only [inBlk]
   by_cases hj : j = id
   ·rw [if_pos hj, if_pos (by simpa [Nat.beq_eq] using hj)]
   ·rw [if_neg hj, if_neg (by simpa [Nat.beq_eq] using hj)]
 | scope a iha =>
  intro f s Q h hwf
  obtain ⟨x, f1, s1, ⟨n1, h1⟩, hk1, h⟩ := iha f s _ h hwf
  refine ⟨_, f1, s1, ⟨n1 + 1, fun m hm => ?_⟩, hk1, h⟩
  obtain ⟨k, rfl⟩ : ∃ k, m = k + 1 := ⟨m - 1, by omega⟩
  simp only [exec, step, h1 k (by omega)]
def wround (Inv : Nat -> AFr -> ASt -> Prop) (k : Nat) (Q : AX -> AFr -> ASt -> Prop) : AX -> AFr -> ASt -> Prop
 | .normal, f, s => ∃ j, j < k ∧ Inv j f s
 | x, f, s => Q x f s
theorem wround_next {Inv : Nat -> AFr -> ASt -> Prop} {k : Nat} {Q : AX -> AFr -> ASt -> Prop} {f : AFr} {s : ASt} (j : Nat) (hj : j < k) (h : Inv j f s) : wround Inv k Q .normal f s := ⟨j, hj, h⟩
theorem wround_ret (Inv : Nat -> AFr -> ASt -> Prop) (k : Nat) (Q : AX -> AFr -> ASt -> Prop) (f : AFr) (s : ASt) : wround Inv k Q .ret f s = Q .ret f s := rfl
theorem wround_exit (Inv : Nat -> AFr -> ASt -> Prop) (k : Nat) (Q : AX -> AFr -> ASt -> Prop) (f : AFr) (s : ASt) (id : Nat) : wround Inv k Q (.exit id) f s = Q (.exit id) f s := rfl
theorem Comes.loop {P : Program} {lib : Prims} {a : Code} {Q : AX -> AFr -> ASt -> Prop} (Inv : Nat -> AFr -> ASt -> Prop) (hr : ∀ k f s, Inv k f s -> wcode P lib a f s (wround Inv k Q)) : ∀ k f s, Inv k f s -> Comes P lib (.loop a) f s Q := by
 intro k
 induction k using Nat.strongRecOn with
 | _ k ih =>
  intro f s hi hwf
  obtain ⟨x, f1, s1, ⟨n1, h1⟩, hk1, h⟩ := wcode_ok _ _ _ _ (hr k f s hi) hwf
  cases x with
  | normal =>
   obtain ⟨j, hj, hi'⟩ := h
   obtain ⟨x, f2, s2, ⟨n2, h2⟩, hk2, h⟩ := ih j hj f1 s1 hi' hk1.wf
   refine ⟨x, f2, s2, ⟨n1 + n2 + 1, fun m hm => ?_⟩, hk1.trans hk2, h⟩
   obtain ⟨m, rfl⟩ : ∃ k, m = k + 1 := ⟨m - 1, by omega⟩
   simp only [exec, step, h1 m (by omega), h2 m (by omega)]
  | exit id =>
   refine ⟨_, f1, s1, ⟨n1 + 1, fun m hm => ?_⟩, hk1, h⟩
   obtain ⟨m, rfl⟩ : ∃ k, m = k + 1 := ⟨m - 1, by omega⟩
   simp only [exec, step, h1 m (by omega)]
  | ret =>
   refine ⟨_, f1, s1, ⟨n1 + 1, fun m hm => ?_⟩, hk1, h⟩
   obtain ⟨m, rfl⟩ : ∃ k, m = k + 1 := ⟨m - 1, by omega⟩
   simp only [exec, step, h1 m (by omega)]
theorem Comes.loopAt {P : Program} {lib : Prims} {a : Code} {Q : AX -> AFr -> ASt -> Prop} {f : AFr} {s : ASt} (Inv : Nat -> AFr -> ASt -> Prop) {k : Nat} (h0 : Inv k f s) (hr : ∀ k f s, Inv k f s -> wcode P lib a f s (wround Inv k Q)) : Comes P lib (.loop a) f s Q :=
 Comes.loop Inv hr k f s h0
theorem Comes.loopOut {P : Program} {lib : Prims} {a : Code} {Q' : AX -> AFr -> ASt -> Prop} {f : AFr} {s : ASt} (Inv : Nat -> AFr -> ASt -> Prop) (Out : AX -> AFr -> ASt -> Prop) {k : Nat} (h0 : Inv k f s)
  (hr : ∀ Q : AX -> AFr -> ASt -> Prop, (∀ x f s, Out x f s -> Q x f s) -> ∀ k f s, Inv k f s -> wcode P lib a f s (wround Inv k Q)) (ho : ∀ x f s, Out x f s -> Q' x f s) : Comes P lib (.loop a) f s Q' :=
 (Comes.loopAt (Q := Out) Inv h0 (hr Out (fun _ _ _ h => h))).mono ho
def wres (s : ASt) (Q : Value -> ASt -> Prop) : Option (List Value) -> Prop
 | some l => Q (oneOf l) s
 | none => False
def wfn (P : Program) (rs : List ResultVar) (Q : Value -> ASt -> Prop) (x : AX) (f : AFr) (s : ASt) : Prop :=
 match x with
 | .exit _ => False
 | _ => wres s Q (resultsA P f s rs)
theorem wfn_ret (P : Program) (rs : List ResultVar) (Q : Value -> ASt -> Prop) (f : AFr) (s : ASt) : wfn P rs Q .ret f s = wres s Q (resultsA P f s rs) := rfl
theorem wfn_normal (P : Program) (rs : List ResultVar) (Q : Value -> ASt -> Prop) (f : AFr) (s : ASt) : wfn P rs Q .normal f s = wres s Q (resultsA P f s rs) := rfl
theorem wres_some (s : ASt) (Q : Value -> ASt -> Prop) (l : List Value) : wres s Q (some l) = Q (oneOf l) s := rfl
theorem Runs.of_code {P : Program} {lib : Prims} {g : FuncId} {args : List Value} {s : ASt} {Q : Value -> ASt -> Prop} {fn : Func} {c : Code} (hg : P.funcs[g]? = some fn) (hb : fn.body = some c) (hl : lib.at g = none) (hn : Nat.ble (args.length + (fn.ntmps - args.length)) 16000000 = true)
  (h : Comes P lib c (enterA fn args) s (wfn P fn.results.toList Q)) : Runs P lib g args s Q := by
 intro hwf
 obtain ⟨x, f1, s1, ⟨n1, h1⟩, hk1, h⟩ := h hwf
 have go : ∀ l, resultsA P f1 s1 fn.results.toList = some l -> Q (oneOf l) s1 -> (x = .normal ∨ x = .ret) -> ∃ v s', (∃ n, ∀ m, n ≤ m -> acall P lib m g args s = some (v, s')) ∧ Keeps s s' ∧ Q v s' := by
  intro l hr hq hx
  refine ⟨oneOf l, s1, ⟨n1, fun m hm => ?_⟩, hk1, hq⟩
  have h1 := h1 m hm
  rcases hx with rfl | rfl
  ·simp only [acall, callStep, hl, hg, hb, hn, h1, hr]
  ·simp only [acall, callStep, hl, hg, hb, hn, h1, hr]
 cases x with
 | exit id => exact h.elim
 | normal =>
  simp only [wfn, wres] at h
  split at h
  ·exact go _ ‹_› h (.inl rfl)
  ·exact h.elim
 | ret =>
  simp only [wfn, wres] at h
  split at h
  ·exact go _ ‹_› h (.inr rfl)
  ·exact h.elim
end Go.Cl