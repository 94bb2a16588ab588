/-
  The clean machine, part 25: a statement whose order is open: where each look and each effect stands behind all memory that was laid ahead of it in the text, and each look on one side of each effect, it comes to what it comes to in the text's order, the new blocks' places kept free from the start.
-/
import Derived.Test.YtpdkppimlcbhlaaMem
namespace Go.Cl

/-- It looks at slots alone. -/
def pureOp (o : Oper) : Bool :=
  match o.op with
  | .move _ | .assign _ | .pick _ _ _ | .build _ _ | .nilCheck _ | .binOp _ _ _ _ _ | .unOp _ _ _ | .fieldAddr _ _ _ | .field _ _ _ | .indexAddr _ _ _ | .index _ _ _ | .extract _ _ => true
  | _ => false
theorem pure_quiet {P : Program} {o : Oper} (h : pureOp o = true) : quietOp P o = true := by
  obtain ⟨dst, op, type, pos, after, guard⟩ := o
  cases op <;> simp_all [pureOp, quietOp]
theorem pure_look {P : Program} {o : Oper} (h : pureOp o = true) (f : AFr) : ∃ r : Option Value, ∀ s, aop P o f s = vOf s r := by
  obtain ⟨dst, op, type, pos, after, guard⟩ := o
  cases op <;> simp only [pureOp] at h <;> try (cases h; done)
  case move x => exact ⟨evalA f x, fun _ => rfl⟩
  case assign x => exact ⟨evalA f x, fun _ => rfl⟩
  case pick c a b =>
    refine ⟨match evalA f c, evalA f a, evalA f b with
      | some (.bool t), some u, some v => some (if t then u else v)
      | _, _, _ => none, fun s => ?_⟩
    rw [aop_pick]
    generalize evalA f c = X
    generalize evalA f a = Y
    generalize evalA f b = Z
    split <;> first | rfl | (split <;> first | rfl | (exfalso; simp_all))
  case build t ps =>
    refine ⟨match partsA f ps.toList with
      | some l => buildA P t l
      | none => none, fun s => ?_⟩
    rw [aop_build]
    generalize partsA f ps.toList = X
    cases X <;> rfl
  case nilCheck x =>
    refine ⟨match evalA f x with
      | some (.pointer (some a)) => some (.pointer (some a))
      | some (.func (.func g) as bs) => some (.func (.func g) as bs)
      | _ => none, fun s => ?_⟩
    rw [aop_nilCheck]
    generalize evalA f x = X
    split <;> first | rfl | (split <;> first | rfl | (exfalso; simp_all))
  case binOp op t x y t2 =>
    refine ⟨match evalA f x, evalA f y with
      | some u, some v => binA P op t u v
      | _, _ => none, fun s => ?_⟩
    rw [aop_binOp]
    generalize evalA f x = X
    generalize evalA f y = Y
    cases X <;> cases Y <;> rfl
  case unOp op t x =>
    refine ⟨match evalA f x with
      | some u => unA op u
      | none => none, fun s => ?_⟩
    rw [aop_unOp]
    generalize evalA f x = X
    cases X <;> rfl
  case fieldAddr t x i =>
    refine ⟨match evalA f x with
      | some u => fieldAddrA P t u i
      | none => none, fun s => ?_⟩
    rw [aop_fieldAddr]
    generalize evalA f x = X
    cases X <;> rfl
  case field t x i =>
    refine ⟨match evalA f x with
      | some u => fieldA P t u i
      | none => none, fun s => ?_⟩
    rw [aop_field]
    generalize evalA f x = X
    cases X <;> rfl
  case indexAddr t x y =>
    refine ⟨match evalA f x, evalA f y with
      | some u, some v => indexAddrA P t u v
      | _, _ => none, fun s => ?_⟩
    rw [aop_indexAddr]
    generalize evalA f x = X
    generalize evalA f y = Y
    cases X <;> cases Y <;> rfl
  case index t x y =>
    refine ⟨match evalA f x, evalA f y with
      | some u, some v => indexA P t u v
      | _, _ => none, fun s => ?_⟩
    rw [aop_index]
    generalize evalA f x = X
    generalize evalA f y = Y
    cases X <;> cases Y <;> rfl
  case extract x i =>
    refine ⟨match evalA f x with
      | some u => extractA u i
      | none => none, fun s => ?_⟩
    rw [aop_extract]
    generalize evalA f x = X
    cases X <;> rfl
theorem pure_any {P : Program} {o : Oper} (h : pureOp o = true) {f : AFr} {s t : ASt} {v : Value} {s' : ASt} (ha : aop P o f s = some (.val v s')) : aop P o f t = some (.val v t) := by
  obtain ⟨r, hr⟩ := pure_look (P := P) h f
  rw [hr] at ha
  cases r with
  | none => cases ha
  | some u =>
    rw [vOf_some] at ha
    injection ha with ha; injection ha with e _; subst e
    rw [hr]; rfl

/-! In the text's order. -/
/-- What an operation that makes a block makes. -/
def valloc (id : Nat) : Option AR → Option (Value × Blk)
  | some (.val v s1) =>
    match s1.blk? id with
    | some b => some (v, b)
    | none => none
  | _ => none
def wopsV (P : Program) (lib : Prims) (all : List Oper) : List Oper → Nat → AFr → ASt → (AFr → ASt → Prop) → Prop
  | [], _, f, T, Q => Q f T
  | o :: r, id, f, T, Q =>
    match wantedA all o f with
    | true =>
      match quietOp P o, allocOp P o with
      | true, _ =>
        match aop P o f T with
        | some (.val v _) => valEq v v = true ∧ wput f o.dst v fun f' => wopsV P lib all r id f' T Q
        | _ => False
      | false, true =>
        match valloc id (aop P o f ⟨.nil, id⟩) with
        | some (v, b) => wput f o.dst v fun f' => wopsV P lib all r (id + 1) f' (T.put id (.blk b)) Q
        | none => False
      | false, false =>
        match aop P o f T with
        | some (.val v T') => wput f o.dst v fun f' => wopsV P lib all r id f' T' Q
        | some (.call g args) => Runs P lib g args T fun v T' => wput f o.dst v fun f' => wopsV P lib all r id f' T' Q
        | none => False
    | false => wput f o.dst undef fun f' => wopsV P lib all r (if allocOp P o then id + 1 else id) f' T Q
/-- How an operation is taken: it looks, it makes, it turns. -/
def vkind (P : Program) (o : Oper) : Nat := if quietOp P o then 0 else if allocOp P o then 1 else 2
def vlook (P : Program) (lib : Prims) (all r : List Oper) (id : Nat) (f : AFr) (T : ASt) (d : Option Tmp) (Q : AFr → ASt → Prop) : Option AR → Prop
  | some (.val v _) => valEq v v = true ∧ wput f d v fun f' => wopsV P lib all r id f' T Q
  | _ => False
def vmake (P : Program) (lib : Prims) (all r : List Oper) (id : Nat) (f : AFr) (T : ASt) (d : Option Tmp) (Q : AFr → ASt → Prop) : Option (Value × Blk) → Prop
  | some (v, b) => wput f d v fun f' => wopsV P lib all r (id + 1) f' (T.put id (.blk b)) Q
  | none => False
def vstep (P : Program) (lib : Prims) (all r : List Oper) (id : Nat) (f : AFr) (d : Option Tmp) (T : ASt) (Q : AFr → ASt → Prop) : Option AR → Prop
  | some (.val v T') => wput f d v fun f' => wopsV P lib all r id f' T' Q
  | some (.call g args) => Runs P lib g args T fun v T' => wput f d v fun f' => wopsV P lib all r id f' T' Q
  | none => False
def vcall (P : Program) (lib : Prims) (all r : List Oper) (id : Nat) (f : AFr) (d : Option Tmp) (Q : AFr → ASt → Prop) (v : Value) (T' : ASt) : Prop := wput f d v fun f' => wopsV P lib all r id f' T' Q
def vwant (P : Program) (lib : Prims) (all : List Oper) (o : Oper) (r : List Oper) (id : Nat) (f : AFr) (T : ASt) (Q : AFr → ASt → Prop) : Bool → Prop
  | true =>
    match quietOp P o, allocOp P o with
    | true, _ => vlook P lib all r id f T o.dst Q (aop P o f T)
    | false, true => vmake P lib all r id f T o.dst Q (valloc id (aop P o f ⟨.nil, id⟩))
    | false, false => vstep P lib all r id f o.dst T Q (aop P o f T)
  | false => wput f o.dst undef fun f' => wopsV P lib all r (if allocOp P o then id + 1 else id) f' T Q
section
variable (P : Program) (lib : Prims) (all : List Oper) (r : List Oper) (id : Nat) (f : AFr) (T : ASt) (Q : AFr → ASt → Prop)
theorem wopsV_nil : wopsV P lib all [] id f T Q = Q f T := by simp only [wopsV]
theorem wopsV_cons (o : Oper) : wopsV P lib all (o :: r) id f T Q = vwant P lib all o r id f T Q (wantedA all o f) := by
  simp only [wopsV]
  cases wantedA all o f with
  | false => rfl
  | true =>
    simp only [vwant]
    cases quietOp P o with
    | true =>
      simp only
      cases aop P o f T with
      | none => rfl
      | some a => cases a <;> rfl
    | false =>
      cases allocOp P o with
      | true =>
        simp only
        cases valloc id (aop P o f ⟨.nil, id⟩) with
        | none => rfl
        | some a => rfl
      | false =>
        simp only
        cases aop P o f T with
        | none => rfl
        | some a => cases a <;> rfl
theorem vwant_quiet (o : Oper) (h : quietOp P o = true) : vwant P lib all o r id f T Q true = vlook P lib all r id f T o.dst Q (aop P o f T) := by simp only [vwant, h]
theorem vwant_alloc (o : Oper) (h : quietOp P o = false) (h2 : allocOp P o = true) : vwant P lib all o r id f T Q true = vmake P lib all r id f T o.dst Q (valloc id (aop P o f ⟨.nil, id⟩)) := by simp only [vwant, h, h2]
theorem vwant_effect (o : Oper) (h : quietOp P o = false) (h2 : allocOp P o = false) : vwant P lib all o r id f T Q true = vstep P lib all r id f o.dst T Q (aop P o f T) := by simp only [vwant, h, h2]
variable (d : Option Tmp) (ty : TypeId) (ps : String) (af : Array Edge) (gd : Option (Nat × Bool))
/-- Whatever the operation. -/
theorem vwant_true (o : Oper) : vwant P lib all o r id f T Q true = bif quietOp P o then vlook P lib all r id f T o.dst Q (aop P o f T) else bif allocOp P o then vmake P lib all r id f T o.dst Q (valloc id (aop P o f ⟨.nil, id⟩)) else vstep P lib all r id f o.dst T Q (aop P o f T) := by
  cases hq : quietOp P o with
  | true => rw [vwant_quiet _ _ _ _ _ _ _ _ _ hq]; rfl
  | false =>
    cases ha : allocOp P o with
    | true => rw [vwant_alloc _ _ _ _ _ _ _ _ _ hq ha]; rfl
    | false => rw [vwant_effect _ _ _ _ _ _ _ _ _ hq ha]; rfl
theorem vwant_ite (o : Oper) : vwant P lib all o r id f T Q true = if quietOp P o = true then vlook P lib all r id f T o.dst Q (aop P o f T) else if allocOp P o = true then vmake P lib all r id f T o.dst Q (valloc id (aop P o f ⟨.nil, id⟩)) else vstep P lib all r id f o.dst T Q (aop P o f T) := by
  rw [vwant_true]
  cases quietOp P o <;> cases allocOp P o <;> rfl
theorem vwant_false_some (op : Op) (t : Tmp) : vwant P lib all ⟨some t, op, ty, ps, af, gd⟩ r id f T Q false = if t < f.n then wopsV P lib all r (bif allocOp P ⟨some t, op, ty, ps, af, gd⟩ then id + 1 else id) (f.put t undef) T Q else False := by
  unfold vwant; simp only; rw [wput_some]
  cases allocOp P ⟨some t, op, ty, ps, af, gd⟩ <;> rfl
theorem vwant_false_none (op : Op) : vwant P lib all ⟨none, op, ty, ps, af, gd⟩ r id f T Q false = wopsV P lib all r (bif allocOp P ⟨none, op, ty, ps, af, gd⟩ then id + 1 else id) f T Q := by
  unfold vwant; simp only; rw [wput_none]
  cases allocOp P ⟨none, op, ty, ps, af, gd⟩ <;> rfl
theorem vlook_val (t : Tmp) (v : Value) (s' : ASt) : vlook P lib all r id f T (some t) Q (some (.val v s')) = if valEq v v = true ∧ t < f.n then wopsV P lib all r id (f.put t v) T Q else False := by
  simp only [vlook, wput_some]
  by_cases h1 : valEq v v = true <;> by_cases h2 : t < f.n <;> simp [h1, h2]
theorem vstep_val (t : Tmp) (v : Value) (s' : ASt) : vstep P lib all r id f (some t) T Q (some (.val v s')) = if t < f.n then wopsV P lib all r id (f.put t v) s' Q else False := by
  simp only [vstep, wput_some]
theorem vstep_val_none (v : Value) (s' : ASt) : vstep P lib all r id f none T Q (some (.val v s')) = wopsV P lib all r id f s' Q := by
  simp only [vstep, wput_none]
theorem vstep_call (g : FuncId) (args : List Value) : vstep P lib all r id f d T Q (some (.call g args)) = Runs P lib g args T (vcall P lib all r id f d Q) := rfl
theorem vcall_some (t : Tmp) (v : Value) (s' : ASt) : vcall P lib all r id f (some t) Q v s' = if t < f.n then wopsV P lib all r id (f.put t v) s' Q else False := by
  simp only [vcall, wput_some]
theorem vcall_none (v : Value) (s' : ASt) : vcall P lib all r id f none Q v s' = wopsV P lib all r id f s' Q := rfl
theorem vmake_some (t : Tmp) (v : Value) (b : Blk) : vmake P lib all r id f T (some t) Q (some (v, b)) = if t < f.n then wopsV P lib all r (id + 1) (f.put t v) (T.put id (.blk b)) Q else False := by
  simp only [vmake, wput_some]
end
/-- Of a frame only what is asked. -/
theorem vcall_reframe {P : Program} {lib : Prims} {all r : List Oper} {id : Nat} {f : AFr} {d : Option Tmp} {Q : AFr → ASt → Prop} {v : Value} {s' : ASt} (F : AFr → Prop) (h : F f) (k : ∀ f, F f → vcall P lib all r id f d Q v s') : vcall P lib all r id f d Q v s' := k f h

/-! When it is so. -/
def needs (P : Program) (o : Oper) : Bool := !pureOp o && !allocOp P o
def tightB (P : Program) (ops : List Oper) : Bool :=
  let ms := masks ops []
  ops.zipIdx.all fun x =>
    (ops.zipIdx.all fun y => !allocOp P y.1 || (bif Nat.blt y.2 x.2 then !needs P x.1 || Nat.testBit (nth0 ms x.2) y.2 else !Nat.testBit (nth0 ms x.2) y.2)) &&
    (!(quietOp P x.1 && !pureOp x.1) || (Nat.ble (countP (fun j => !Nat.testBit (nth0 ms j) x.2) P ops 0) (countP (fun j => Nat.blt j x.2) P ops 0) && Nat.beq (countP (Nat.testBit (nth0 ms x.2)) P ops 0) (countP (fun j => Nat.blt j x.2) P ops 0)))

theorem stages_head (P : Program) : ∀ (l : List Oper) (es : List Ev) (T : ASt), ∃ r, stagesOf P l es T = T :: r := by
  intro l
  induction l with
  | nil => intro es T; exact ⟨[], by cases es <;> rfl⟩
  | cons o l ih =>
    intro es T
    cases es with
    | nil => exact ⟨[], rfl⟩
    | cons e es =>
      simp only [stagesOf]
      split
      · exact ⟨_, rfl⟩
      · split
        · exact ⟨_, rfl⟩
        · exact ih es T
/-- How many effects stand ahead of a place. -/
def effs (P : Program) : List Oper → Nat → Nat
  | [], _ => 0
  | _, 0 => 0
  | o :: r, n + 1 => if effectOp P o then effs P r n + 1 else effs P r n
theorem countP_before (P : Program) : ∀ (l : List Oper) (i n : Nat), countP (fun j => Nat.blt j (i + n)) P l i = effs P l n := by
  intro l
  induction l with
  | nil => intro i n; cases n <;> rfl
  | cons o l ih =>
    intro i n
    simp only [countP]
    cases n with
    | zero =>
      have h0 : ∀ (l : List Oper) (k : Nat), i ≤ k → countP (fun j => Nat.blt j (i + 0)) P l k = 0 := by
        intro l
        induction l with
        | nil => intro k _; rfl
        | cons p l ihl =>
          intro k hk
          have hb : Nat.blt k (i + 0) = false := by rw [← Bool.not_eq_true, Nat.blt_eq]; omega
          simp only [countP, hb, Bool.and_false, Bool.false_eq_true, if_false]
          exact ihl (k + 1) (by omega)
      have hb : Nat.blt i (i + 0) = false := by rw [← Bool.not_eq_true, Nat.blt_eq]; omega
      simp only [hb, Bool.and_false, Bool.false_eq_true, if_false, effs]
      exact h0 l (i + 1) (by omega)
    | succ n =>
      have hb : Nat.blt i (i + (n + 1)) = true := by rw [Nat.blt_eq]; omega
      have e : i + (n + 1) = (i + 1) + n := by omega
      simp only [hb, Bool.and_true, effs]
      rw [e, ih (i + 1) n]
theorem effs_append (P : Program) : ∀ (a b : List Oper), effs P (a ++ b) a.length = effs P a a.length := by
  intro a
  induction a with
  | nil => intro b; cases b <;> rfl
  | cons o a ih => intro b; simp only [List.cons_append, List.length_cons, effs]; rw [ih b]
theorem effs_snoc (P : Program) (o : Oper) : ∀ (a : List Oper), effs P (a ++ [o]) (a ++ [o]).length = if effectOp P o then effs P a a.length + 1 else effs P a a.length := by
  intro a
  induction a with
  | nil => rfl
  | cons p a ih => simp only [List.cons_append, List.length_cons, effs]; rw [ih]; split <;> split <;> rfl
theorem allocs_append (P : Program) : ∀ (a b : List Oper), allocs P (a ++ b) = allocs P a + allocs P b := by
  intro a
  induction a with
  | nil => intro b; simp [allocs]
  | cons o a ih => intro b; simp only [List.cons_append, allocs]; rw [ih]; split <;> omega
theorem fill_append (p : Nat → Bool) : ∀ (a b : List (Nat × Nat × Blk)) (T : ASt), Cl.fill p T (a ++ b) = Cl.fill p (Cl.fill p T a) b := by
  intro a
  induction a with
  | nil => intro b T; rfl
  | cons x a ih =>
    intro b T
    obtain ⟨j, id, bk⟩ := x
    simp only [List.cons_append, Cl.fill]
    split
    · exact ih _ _
    · exact ih _ _
theorem fill_none (p : Nat → Bool) : ∀ (a : List (Nat × Nat × Blk)) (T : ASt), (∀ x ∈ a, p x.1 = false) → Cl.fill p T a = T := by
  intro a
  induction a with
  | nil => intro T _; rfl
  | cons x a ih =>
    intro T h
    obtain ⟨j, id, bk⟩ := x
    have hj : p j = false := h (j, id, bk) (List.mem_cons_self ..)
    simp only [Cl.fill, hj]
    exact ih T (fun y hy => h y (List.mem_cons_of_mem _ hy))
theorem fill_here (p : Nat → Bool) : ∀ (a : List (Nat × Nat × Blk)) (T : ASt), (∀ x ∈ a, T.heap.get x.2.1 ≠ none) → Cl.fill p T a = T := by
  intro a
  induction a with
  | nil => intro T _; rfl
  | cons x a ih =>
    intro T h
    obtain ⟨j, id, bk⟩ := x
    have hj : T.heap.get id ≠ none := h (j, id, bk) (List.mem_cons_self ..)
    simp only [Cl.fill]
    split
    · rename_i _ hn; exact absurd hn hj
    · exact ih T (fun y hy => h y (List.mem_cons_of_mem _ hy))

/-- Where a run in the text's order stands to a run of the machine: all that was laid, laid. -/
structure Stands (s0 : ASt) (K : Nat) (i id : Nat) (as : List (Nat × Nat × Blk)) (T U : ASt) : Prop where
  fill : ∀ p : Nat → Bool, (∀ x ∈ as, p x.1 = true) → Cl.fill p T as = U
  here : ∀ x ∈ as, U.heap.get x.2.1 ≠ none
  before : ∀ x ∈ as, x.1 < i
  lo : s0.next ≤ id
  free : ∀ k, id ≤ k → k < s0.next + K → U.heap.get k = none
  next : s0.next + K ≤ U.next
  keeps : Keeps s0 U

theorem drawOps_tight {P : Program} {lib : Prims} {all : List Oper} (s0 : ASt) (msA : List Nat) {Q : AFr → ASt → Prop}
    (hwin : ∀ (o : Oper) (i : Nat), all[i]? = some o → quietOp P o = true → pureOp o = false → countP (fun j => !Nat.testBit (nth0 msA j) i) P all 0 ≤ effs P all i ∧ countP (Nat.testBit (nth0 msA i)) P all 0 = effs P all i)
    (hback : ∀ (o p : Oper) (i j : Nat), all[i]? = some o → all[j]? = some p → allocOp P p = true → j < i → needs P o = true → Nat.testBit (nth0 msA i) j = true)
    (hfwd : ∀ (o p : Oper) (i j : Nat), all[i]? = some o → all[j]? = some p → allocOp P p = true → i ≤ j → Nat.testBit (nth0 msA i) j = false) :
    ∀ (l pre : List Oper) (ms : List Nat) (id : Nat) (f : AFr) (T U : ASt) (as : List (Nat × Nat × Blk)), all = pre ++ l → ms = msA.drop pre.length → ms.length = l.length → id + allocs P l ≤ s0.next + allocs P all → Stands s0 (allocs P all) pre.length id as T U → (∀ x ∈ as, ∃ p, all[x.1]? = some p ∧ allocOp P p = true) → wopsV P lib all l id f U Q →
    ∃ es f' T' U', (∃ n, ∀ m, n ≤ m → drawOps P (acall P lib m) all ms l pre.length id f T as = some es) ∧ (stagesOf P l es T).getLastD T = T' ∧ framesOf l es f = f' ∧ Cl.fill (fun _ => true) T' (as ++ madeOf es pre.length) = U' ∧
      (∀ x ∈ madeOf es pre.length, pre.length ≤ x.1 ∧ ∃ p, all[x.1]? = some p ∧ allocOp P p = true) ∧
      (∀ sts before, sts = before ++ stagesOf P l es T → before.length = effs P pre pre.length → checkAll P all msA (as ++ madeOf es pre.length) sts ms l es pre.length f = true) ∧ Keeps s0 U' ∧ Q f' U' := by
  intro l
  induction l with
  | nil =>
    intro pre ms id f T U as _ _ hl _ hst _ hw
    rw [wopsV_nil] at hw
    cases ms with
    | cons m r => simp at hl
    | nil => exact ⟨[], f, T, U, ⟨0, fun _ _ => rfl⟩, rfl, rfl, by simp only [madeOf, List.append_nil]; exact hst.fill _ (fun _ _ => rfl), (fun x hx => by simp [madeOf] at hx), fun _ _ _ _ => rfl, hst.keeps, hw⟩
  | cons o r ih =>
    intro pre ms id f T U as hall hms hl hid hst has hw
    cases ms with
    | nil => simp at hl
    | cons m ms =>
    have hlr : ms.length = r.length := by simpa using hl
    have hall' : all = (pre ++ [o]) ++ r := by rw [hall, List.append_assoc]; rfl
    have hlen' : (pre ++ [o]).length = pre.length + 1 := by simp
    have hms' : ms = msA.drop (pre ++ [o]).length := by
      rw [hlen', ← List.drop_drop, ← hms]; rfl
    have hmA : nth0 msA pre.length = m := by
      have nth0_drop : ∀ (L : List Nat) (k : Nat) (x : Nat) (t : List Nat), L.drop k = x :: t → nth0 L k = x := by
        intro L
        induction L with
        | nil => intro k x t h; simp at h
        | cons y L ihL =>
          intro k x t h
          cases k with
          | zero => simp at h; exact h.1
          | succ k => simp only [List.drop_succ_cons] at h; simp only [nth0]; exact ihL k x t h
      exact nth0_drop msA pre.length m ms hms.symm
    have hget : all[pre.length]? = some o := by rw [hall]; simp
    have heffs : effs P all pre.length = effs P pre pre.length := by rw [hall, effs_append]
    have hsn := effs_snoc P o pre
    have hput : ∀ (v : Value) (id' : Nat) (U' : ASt), (wput f o.dst v fun f' => wopsV P lib all r id' f' U' Q) → ∃ f1, putD f o.dst v = some f1 ∧ wopsV P lib all r id' f1 U' Q := by
      intro v id' U' h
      unfold wput at h
      split at h
      · exact ⟨_, ‹_›, h⟩
      · exact h.elim
    have hallocs : allocs P (o :: r) = if allocOp P o then allocs P r + 1 else allocs P r := rfl
    -- a need is met
    have hfillU : needs P o = true → Cl.fill (Nat.testBit m) T as = U := fun hn => hst.fill _ (fun x hx => by
      obtain ⟨p, hp, hpa⟩ := has x hx
      rw [← hmA]
      exact hback o p pre.length x.1 hget hp hpa (hst.before x hx) hn)
    rw [wopsV_cons] at hw
    cases hwa : wantedA all o f with
    | false =>
      rw [hwa] at hw
      obtain ⟨f1, hp, hw⟩ := hput _ _ _ hw
      have hst' : Stands s0 (allocs P all) (pre ++ [o]).length (if allocOp P o then id + 1 else id) as T U := by
        refine ⟨hst.fill, hst.here, fun x hx => by have := hst.before x hx; omega, by have := hst.lo; split <;> omega, fun k hk hk2 => hst.free k (by split at hk <;> omega) hk2, hst.next, hst.keeps⟩
      obtain ⟨es, f', T', U', ⟨n, h1⟩, h3, h4, hf, hmd, h5, hk, h6⟩ := ih (pre ++ [o]) ms _ f1 T U as hall' hms' hlr (by rw [hallocs] at hid; split <;> split at hid <;> first | omega | contradiction) hst' has hw
      rw [hlen'] at h1 h5 hf hmd
      refine ⟨.skip :: es, f', T', U', ⟨n, fun q hq => ?_⟩, ?_, by simp only [framesOf, Ev.val, hp, h4], by simp only [madeOf]; exact hf, (fun x hx => by simp only [madeOf] at hx; obtain ⟨a, b⟩ := hmd x hx; exact ⟨by omega, b⟩), fun sts before hs hb => ?_, hk, h6⟩
      · simp only [drawOps, drawOp, hwa, Ev.val, hp]
        rw [h1 q hq]
      · simp only [stagesOf]
        split
        · obtain ⟨rr, hr⟩ := stages_head P r es T
          rw [hr] at h3 ⊢
          rw [List.getLastD_cons] at h3 ⊢
          rw [List.getLastD_cons]; exact h3
        · exact h3
      · simp only [checkAll, Ev.val, hp, Bool.true_and, madeOf]
        simp only [stagesOf] at hs
        split at hs
        · rename_i he
          refine h5 sts (before ++ [T]) (by rw [hs, List.append_assoc]; rfl) ?_
          rw [← hlen', hsn, if_pos he, List.length_append, hb]; rfl
        · rename_i he
          refine h5 sts before hs ?_
          rw [← hlen', hsn, if_neg he, hb]
    | true =>
      rw [hwa] at hw
      cases hq : quietOp P o with
      | true =>
        rw [vwant_quiet _ _ _ _ _ _ _ _ _ hq] at hw
        have hne := quiet_not_effect hq
        have hna := quiet_not_alloc hq
        rw [hallocs, if_neg (by simp [hna])] at hid
        unfold vlook at hw
        split at hw
        case h_2 => exact hw.elim
        rename_i v s1 hop
        obtain ⟨hv, hw⟩ := hw
        obtain ⟨f1, hp, hw⟩ := hput _ _ _ hw
        have hst' : Stands s0 (allocs P all) (pre ++ [o]).length id as T U := ⟨hst.fill, hst.here, fun x hx => by have := hst.before x hx; omega, hst.lo, hst.free, hst.next, hst.keeps⟩
        obtain ⟨es, f', T', U', ⟨n, h1⟩, h3, h4, hf, hmd, h5, hk, h6⟩ := ih (pre ++ [o]) ms id f1 T U as hall' hms' hlr hid hst' has hw
        rw [hlen'] at h1 h5 hf hmd
        -- what it sees
        have hsee : ∃ s2, aop P o f (Cl.fill (Nat.testBit m) T as) = some (.val v s2) := by
          cases hpu : pureOp o with
          | true => exact ⟨_, pure_any hpu hop⟩
          | false => exact ⟨s1, by rw [hfillU (by simp [needs, hpu, hna])]; exact hop⟩
        obtain ⟨s2, hsee⟩ := hsee
        refine ⟨.quiet v :: es, f', T', U', ⟨n, fun q hqm => ?_⟩, ?_, by simp only [framesOf, Ev.val, hp, h4], by simp only [madeOf]; exact hf, (fun x hx => by simp only [madeOf] at hx; obtain ⟨a, b⟩ := hmd x hx; exact ⟨by omega, b⟩), fun sts before hs hb => ?_, hk, h6⟩
        · simp only [drawOps, drawOp, hwa, hq, hsee, Ev.val, hp, hna]
          rw [if_neg (by simp), h1 q hqm]
        · simp only [stagesOf, hne]; simpa using h3
        · have hs' : sts = before ++ stagesOf P r es T := by simpa [stagesOf, hne] using hs
          simp only [checkAll, Ev.val, hp, madeOf]
          rw [h5 sts before hs' (by rw [← hlen', hsn, if_neg (by simp [hne]), hb]), Bool.and_true]
          -- fill by all that is made is fill by what was made
          have hfw : ∀ X : ASt, Cl.fill (Nat.testBit m) X (as ++ madeOf es (pre.length + 1)) = Cl.fill (Nat.testBit m) X as := by
            intro X
            rw [fill_append, fill_none _ (madeOf es (pre.length + 1))]
            intro x hx
            obtain ⟨a, p, hp', hpa⟩ := hmd x hx
            rw [← hmA]
            exact hfwd o p pre.length x.1 hget hp' hpa (by omega)
          have hsame : ∀ (L : List ASt), (pureOp o = false → ∀ x ∈ L, x = T) → sameAt P m (as ++ madeOf es (pre.length + 1)) o f v L = true := by
            intro L
            induction L with
            | nil => intro _; rfl
            | cons x L ihL =>
              intro hx
              simp only [sameAt, hfw]
              have : ∃ s3, aop P o f (Cl.fill (Nat.testBit m) x as) = some (.val v s3) := by
                cases hpu : pureOp o with
                | true => exact ⟨_, pure_any hpu hop⟩
                | false => rw [hx hpu x (List.mem_cons_self ..)]; exact ⟨s2, hsee⟩
              obtain ⟨s3, hs3⟩ := this
              rw [hs3]
              simp only [hv, Bool.true_and]
              exact ihL (fun hpu y hy => hx hpu y (List.mem_cons_of_mem _ hy))
          refine hsame _ (fun hpu x hx => ?_)
          obtain ⟨t1, t2⟩ := hwin o pre.length hget hq hpu
          rw [hmA] at t2
          rw [t2] at hx
          obtain ⟨rr, hr⟩ := stages_head P r es T
          rw [heffs, ← hb, List.drop_take, hs', hr, List.drop_left] at hx
          have hk1 : countP (fun j => !Nat.testBit (nth0 msA j) pre.length) P all 0 + 1 - before.length ≤ 1 := by omega
          generalize countP (fun j => !Nat.testBit (nth0 msA j) pre.length) P all 0 + 1 - before.length = k at hx hk1
          cases k with
          | zero => simp at hx
          | succ k =>
            obtain rfl : k = 0 := by omega
            simpa using hx
      | false =>
        cases ha : allocOp P o with
        | true =>
          rw [vwant_alloc _ _ _ _ _ _ _ _ _ hq ha] at hw
          rw [hallocs, if_pos ha] at hid
          have hne : effectOp P o = false := by simp [effectOp, ha]
          unfold vmake at hw
          split at hw
          case h_2 => exact hw.elim
          rename_i v b hop
          obtain ⟨f1, hp, hw⟩ := hput _ _ _ hw
          have hop' : ∃ s1, aop P o f ⟨.nil, id⟩ = some (.val v s1) ∧ s1.blk? id = some b := by
            unfold valloc at hop
            split at hop
            · rename_i v1 s1 h1
              split at hop
              · rename_i b1 hb1
                injection hop with hop; injection hop with e1 e2; subst e1; subst e2
                exact ⟨s1, h1, hb1⟩
              · cases hop
            · cases hop
          obtain ⟨s1, ho1, ho2⟩ := hop'
          have hfree := hst.free id (Nat.le_refl _) (by omega)
          have hlt : id < U.next := by have := hst.next; omega
          have hst' : Stands s0 (allocs P all) (pre ++ [o]).length (id + 1) (as ++ [(pre.length, id, b)]) T (U.put id (.blk b)) := by
            refine ⟨fun p hp => ?_, fun x hx => ?_, fun x hx => ?_, by have := hst.lo; omega, fun k hk hk2 => ?_, by have := hst.next; simpa [ASt.put] using this, ?_⟩
            · rw [fill_append, hst.fill p (fun x hx => hp x (List.mem_append_left _ hx))]
              have hpi : p pre.length = true := hp (pre.length, id, b) (List.mem_append_right _ (List.mem_cons_self ..))
              simp only [Cl.fill, hpi, hfree]
            · rcases List.mem_append.mp hx with hx | hx
              · have hh := hst.here x hx
                have : x.2.1 ≠ id := fun e => hh (by rw [e]; exact hfree)
                rw [ASt.get_put_ne _ _ _ _ (Ne.symm this)]; exact hh
              · rw [List.mem_singleton] at hx; subst hx
                simp only [ASt.put, Tr.get_set_self _ _ _ _ (deep (by omega))]; simp
            · rcases List.mem_append.mp hx with hx | hx
              · have := hst.before x hx; omega
              · rw [List.mem_singleton] at hx; subst hx; simp
            · rw [ASt.get_put_ne _ _ _ _ (by omega)]; exact hst.free k (by omega) hk2
            · have hk := hst.keeps
              refine ⟨hk.next, fun j hj hn => ?_, fun j hj => ?_, ⟨by omega, fun j ob hj => ?_⟩⟩
              · have := hst.lo
                rw [ASt.get_put_ne _ _ _ _ (by omega)]; exact hk.gone j hj hn
              · by_cases hji : id = j
                · subst hji; simp only [ASt.put, Tr.get_set_self _ _ _ _ (deep (by omega))]; simp
                · rw [ASt.get_put_ne _ _ _ _ hji]; exact hk.here j hj
              · by_cases hji : id = j
                · subst hji; simpa [ASt.put] using hlt
                · rw [ASt.get_put_ne _ _ _ _ hji] at hj; have := hk.wf.bound j ob hj; simpa [ASt.put] using this
          have has' : ∀ x ∈ as ++ [(pre.length, id, b)], ∃ p, all[x.1]? = some p ∧ allocOp P p = true := by
            intro x hx
            rcases List.mem_append.mp hx with hx | hx
            · exact has x hx
            · rw [List.mem_singleton] at hx; subst hx; exact ⟨o, hget, ha⟩
          obtain ⟨es, f', T', U', ⟨n, h1⟩, h3, h4, hf, hmd, h5, hk, h6⟩ := ih (pre ++ [o]) ms (id + 1) f1 T _ _ hall' hms' hlr (by omega) hst' has' hw
          rw [hlen'] at h1 h5 hf hmd
          have hap : ∀ L, as ++ (pre.length, id, b) :: L = (as ++ [(pre.length, id, b)]) ++ L := fun L => by rw [List.append_assoc]; rfl
          refine ⟨.made v id b :: es, f', T', U', ⟨n, fun q hqm => ?_⟩, ?_, by simp only [framesOf, Ev.val, hp, h4], by simp only [madeOf]; rw [hap]; exact hf, (fun x hx => ?_), fun sts before hs hb => ?_, hk, h6⟩
          · simp only [drawOps, drawOp, hwa, hq, ha, ho1, ho2, Ev.val, hp, if_true]
            rw [h1 q hqm]
          · simp only [stagesOf, hne]; simpa using h3
          · simp only [madeOf] at hx
            rcases List.mem_cons.mp hx with rfl | hx
            · exact ⟨Nat.le_refl _, o, hget, ha⟩
            · obtain ⟨a, c⟩ := hmd x hx; exact ⟨by omega, c⟩
          · simp only [checkAll, Ev.val, hp, Bool.true_and, madeOf]
            rw [hap]
            have hs' : sts = before ++ stagesOf P r es T := by simpa [stagesOf, hne] using hs
            exact h5 sts before hs' (by rw [← hlen', hsn, if_neg (by simp [hne]), hb])
        | false =>
          rw [vwant_effect _ _ _ _ _ _ _ _ _ hq ha] at hw
          rw [hallocs, if_neg (by simp [ha])] at hid
          have he : effectOp P o = true := by simp [effectOp, hq, ha]
          have hpu : pureOp o = false := by
            cases hpu : pureOp o with
            | false => rfl
            | true => rw [pure_quiet hpu] at hq; cases hq
          have hU := hfillU (by simp [needs, hpu, ha])
          have fin : ∀ (v : Value) (U1 : ASt) (n0 : Nat), (∀ q, n0 ≤ q → drawOp P (acall P lib q) all m id as o f T = some (.eff v U1)) → Keeps U U1 → (wput f o.dst v fun f' => wopsV P lib all r id f' U1 Q) →
              ∃ es f' T' U', (∃ n, ∀ m', n ≤ m' → drawOps P (acall P lib m') all (m :: ms) (o :: r) pre.length id f T as = some es) ∧ (stagesOf P (o :: r) es T).getLastD T = T' ∧ framesOf (o :: r) es f = f' ∧ Cl.fill (fun _ => true) T' (as ++ madeOf es pre.length) = U' ∧
                (∀ x ∈ madeOf es pre.length, pre.length ≤ x.1 ∧ ∃ p, all[x.1]? = some p ∧ allocOp P p = true) ∧
                (∀ sts before, sts = before ++ stagesOf P (o :: r) es T → before.length = effs P pre pre.length → checkAll P all msA (as ++ madeOf es pre.length) sts (m :: ms) (o :: r) es pre.length f = true) ∧ Keeps s0 U' ∧ Q f' U' := by
            intro v U1 n0 hd hkU hw
            obtain ⟨f1, hp, hw⟩ := hput _ _ _ hw
            have hhere : ∀ x ∈ as, U1.heap.get x.2.1 ≠ none := fun x hx => hkU.here _ (hst.here x hx)
            have hst' : Stands s0 (allocs P all) (pre ++ [o]).length id as U1 U1 := by
              refine ⟨fun p hp => fill_here p as U1 hhere, hhere, fun x hx => by have := hst.before x hx; omega, hst.lo, fun k hk hk2 => hkU.gone k (by have := hst.next; omega) (hst.free k hk hk2), by have := hst.next; have := hkU.next; omega, hst.keeps.trans hkU⟩
            obtain ⟨es, f', T', U', ⟨n, h1⟩, h3, h4, hf, hmd, h5, hk, h6⟩ := ih (pre ++ [o]) ms id f1 U1 U1 as hall' hms' hlr hid hst' has hw
            rw [hlen'] at h1 h5 hf hmd
            refine ⟨.eff v U1 :: es, f', T', U', ⟨n + n0, fun q hqm => ?_⟩, ?_, by simp only [framesOf, Ev.val, hp, h4], by simp only [madeOf]; exact hf, (fun x hx => by simp only [madeOf] at hx; obtain ⟨a, b⟩ := hmd x hx; exact ⟨by omega, b⟩), fun sts before hs hb => ?_, hk, h6⟩
            · simp only [drawOps, hd q (by omega), Ev.val, hp, ha]
              rw [if_neg (by simp), h1 q (by omega)]
            · simp only [stagesOf]
              obtain ⟨rr, hr⟩ := stages_head P r es U1
              rw [hr] at h3 ⊢
              rw [List.getLastD_cons] at h3 ⊢
              rw [List.getLastD_cons]; exact h3
            · simp only [checkAll, Ev.val, hp, Bool.true_and, madeOf]
              simp only [stagesOf] at hs
              refine h5 sts (before ++ [T]) (by rw [hs, List.append_assoc]; rfl) ?_
              rw [← hlen', hsn, if_pos he, List.length_append, hb]; rfl
          unfold vstep at hw
          split at hw
          case h_3 => exact hw.elim
          · rename_i v U1 hop
            exact fin v U1 0 (fun q _ => by simp only [drawOp, hwa, hq, ha, hU, hop]) (aop_keeps hst.keeps.wf hop) hw
          · rename_i g args hop
            obtain ⟨v, U1, ⟨nc, hc⟩, hkU, hw⟩ := hw hst.keeps.wf
            exact fin v U1 nc (fun q hqm => by simp only [drawOp, hwa, hq, ha, hU, hop, hc q hqm]) hkU hw

/-- A state in which so many places are kept free. -/
def spare (s : ASt) (k : Nat) : ASt := ⟨s.heap, s.next + k⟩
theorem spare_zero (s : ASt) : spare s 0 = s := rfl
theorem spare_next (s : ASt) (k : Nat) : (spare s k).next = s.next + k := rfl
theorem Stay.spare (s : ASt) (k : Nat) : Stay s.next s (spare s k) := ⟨by simp [Cl.spare], fun _ _ => rfl⟩
theorem Drawn.tight {P : Program} {lib : Prims} {ops : List Oper} (ht : tightB P ops = true) {f : AFr} {s : ASt} {Q : AFr → ASt → Prop} (h : wopsV P lib ops ops s.next f (spare s (allocs P ops)) Q) : Drawn P lib ops f s Q := by
  intro hwf
  simp only [tightB, List.all_eq_true, Bool.and_eq_true, Bool.or_eq_true, Bool.not_eq_true'] at ht
  have hmem : ∀ (o : Oper) (i : Nat), ops[i]? = some o → (o, i) ∈ ops.zipIdx := fun o i hi => by rw [List.mem_zipIdx_iff_getElem?]; simpa using hi
  have hms : (masks ops []).length = ops.length := by
    obtain ⟨r, h1, h2⟩ := masks_pre ops []
    rw [h1]; simpa using h2
  have hfree : ∀ k, s.next ≤ k → s.heap.get k = none := fun k hk1 => by
    cases hg : s.heap.get k with
    | none => rfl
    | some o => have := hwf.bound k o hg; omega
  have hk0 : Keeps s (spare s (allocs P ops)) := ⟨by simp [spare], fun _ _ h => h, fun _ h => h, ⟨by omega, fun j o hj => by have := hwf.bound j o hj; simp only [spare]; omega⟩⟩
  obtain ⟨es, f', T', U', ⟨n, h1⟩, h3, h4, hf, hmd, h5, hk, h6⟩ := drawOps_tight (P := P) (lib := lib) (all := ops) s (masks ops []) (Q := Q) (fun o i hi hq hp => by
      have := (ht (o, i) (hmem o i hi)).2
      have hcb := countP_before P ops 0 i
      rw [Nat.zero_add] at hcb
      rcases this with h | h
      · simp [hq, hp] at h
      · obtain ⟨t1, t2⟩ := h
        rw [hcb] at t1 t2
        exact ⟨by simpa [Nat.ble_eq] using t1, by simpa [Nat.beq_eq] using t2⟩)
    (fun o p i j hi hj ha hji hn => by
      have := (ht (o, i) (hmem o i hi)).1 (p, j) (hmem p j hj)
      have hb : Nat.blt j i = true := by simpa [Nat.blt_eq] using hji
      simp only [ha, hb, cond_true, hn] at this
      simpa using this)
    (fun o p i j hi hj ha hij => by
      have := (ht (o, i) (hmem o i hi)).1 (p, j) (hmem p j hj)
      have hb : Nat.blt j i = false := by rw [← Bool.not_eq_true, Nat.blt_eq]; omega
      simp only [ha, hb, cond_false] at this
      simpa using this)
    ops [] (masks ops []) s.next f (spare s (allocs P ops)) (spare s (allocs P ops)) [] rfl rfl hms (by omega)
    ⟨fun _ _ => rfl, fun _ hx => (by cases hx), fun _ hx => (by cases hx), Nat.le_refl _, fun k hk1 _ => hfree k hk1, by simp [spare], hk0⟩ (fun _ hx => (by cases hx)) h
  simp only [List.nil_append, List.length_nil] at h1 h5 hf hmd
  refine ⟨f', U', ⟨n, fun m hm => ?_⟩, hk, h6⟩
  unfold drawRun
  have h1' := h1 m hm
  have hb : Nat.ble 0 16000000 = true := rfl
  simp only [hb]
  show (match drawOps P (acall P lib m) ops (masks ops []) ops 0 s.next f (spare s (allocs P ops)) [] with
    | some es => match checkAll P ops (masks ops []) (madeOf es 0) (stagesOf P ops es (spare s (allocs P ops))) (masks ops []) ops es 0 f with
      | true => some (framesOf ops es f, Cl.fill (fun _ => true) ((stagesOf P ops es (spare s (allocs P ops))).getLastD s) (madeOf es 0))
      | false => none
    | none => none) = _
  rw [h1']
  have h5' := h5 (stagesOf P ops es (spare s (allocs P ops))) [] rfl rfl
  simp only [h5', h4]
  obtain ⟨rr, hr⟩ := stages_head P ops es (spare s (allocs P ops))
  rw [hr] at h3 ⊢
  rw [List.getLastD_cons] at h3 ⊢
  rw [h3, hf]
/-- With so many new blocks. -/
theorem Drawn.tightK {P : Program} {lib : Prims} {ops : List Oper} {f : AFr} {s : ASt} {Q : AFr → ASt → Prop} (k : Nat) (ht : tightB P ops = true) (hk : Nat.beq (allocs P ops) k = true) (h : wopsV P lib ops ops s.next f (spare s k) Q) : wdraw P lib ops f s Q false := by
  have : allocs P ops = k := by simpa [Nat.beq_eq] using hk
  exact Drawn.tight ht (by rw [this]; exact h)
theorem Drawn.tight' {P : Program} {lib : Prims} {ops : List Oper} {f : AFr} {s : ASt} {Q : AFr → ASt → Prop} (ht : (tightB P ops && Nat.beq (allocs P ops) 0) = true) (h : wopsV P lib ops ops s.next f s Q) : wdraw P lib ops f s Q false := by
  rw [Bool.and_eq_true] at ht
  exact Drawn.tightK 0 ht.1 ht.2 h
end Go.Cl
