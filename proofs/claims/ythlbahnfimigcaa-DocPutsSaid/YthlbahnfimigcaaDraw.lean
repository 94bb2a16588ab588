/-
 The clean machine, part 25: a statement whose order is open: where each look and each effect stands behind all memory that was laid ahead of it in the text, and each look on one side of each effect, it comes to what it comes to in the text's order, the new blocks' places kept free from the start.
-/
import Derived.Test.YthlbahnfimigcaaMem
namespace Go.Cl
def pureOp (o : Oper) : Bool :=
 match o.op with
 | .move _ | .assign _ | .pick _ _ _ | .build _ _ | .nilCheck _ | .binOp _ _ _ _ _ | .unOp _ _ _ | .fieldAddr _ _ _ | .field _ _ _ | .indexAddr _ _ _ | .index _ _ _ | .extract _ _ => true
 | _ => false
theorem pure_quiet {P : Program} {o : Oper} (h : pureOp o = true) : quietOp P o = true := by
 obtain ⟨dst, op, type, pos, after, guard⟩ := o
 cases op <;> simp_all [pureOp, quietOp]
theorem pure_look {P : Program} {o : Oper} (h : pureOp o = true) (f : AFr) : ∃ r : Option Value, ∀ s, aop P o f s = vOf s r := by
 obtain ⟨dst, op, type, pos, after, guard⟩ := o
 cases op <;> simp only [pureOp] at h <;> try (cases h; done)
 case move x => exact ⟨evalA f x, fun _ => rfl⟩
 case assign x => exact ⟨evalA f x, fun _ => rfl⟩
 case pick c a b =>
  refine ⟨match evalA f c, evalA f a, evalA f b with
   | some (.bool t), some u, some v => some (if t then u else v)
   | _, _, _ => none, fun s => ?_⟩
  rw [aop_pick]
  generalize evalA f c = X
  generalize evalA f a = Y
  generalize evalA f b = Z
  split <;> first | rfl | (split <;> first | rfl | (exfalso; simp_all))
 case build t ps =>
  refine ⟨match partsA f ps.toList with
   | some l => buildA P t l
   | none => none, fun s => ?_⟩
  rw [aop_build]
  generalize partsA f ps.toList = X
  cases X <;> rfl
 case nilCheck x =>
  refine ⟨match evalA f x with
   | some (.pointer (some a)) => some (.pointer (some a))
   | some (.func (.func g) as bs) => some (.func (.func g) as bs)
   | _ => none, fun s => ?_⟩
  rw [aop_nilCheck]
  generalize evalA f x = X
  split <;> first | rfl | (split <;> first | rfl | (exfalso; simp_all))
 case binOp op t x y t2 =>
  refine ⟨match evalA f x, evalA f y with
   | some u, some v => binA P op t u v
   | _, _ => none, fun s => ?_⟩
  rw [aop_binOp]
  generalize evalA f x = X
  generalize evalA f y = Y
  cases X <;> cases Y <;> rfl
 case unOp op t x =>
  refine ⟨match evalA f x with
   | some u => unA op u
   | none => none, fun s => ?_⟩
  rw [aop_unOp]
  generalize evalA f x = X
  cases X <;> rfl
 case fieldAddr t x i =>
  refine ⟨match evalA f x with
   | some u => fieldAddrA P t u i
   | none => none, fun s => ?_⟩
  rw [aop_fieldAddr]
  generalize evalA f x = X
  cases X <;> rfl
 case field t x i =>
  refine ⟨match evalA f x with
   | some u => fieldA P t u i
   | none => none, fun s => ?_⟩
  rw [aop_field]
  generalize evalA f x = X
  cases X <;> rfl
 case indexAddr t x y =>
  refine ⟨match evalA f x, evalA f y with
   | some u, some v => indexAddrA P t u v
   | _, _ => none, fun s => ?_⟩
  rw [aop_indexAddr]
  generalize evalA f x = X
  generalize evalA f y = Y
  cases X <;> cases Y <;> rfl
 case index t x y =>
  refine ⟨match evalA f x, evalA f y with
   | some u, some v => indexA P t u v
   | _, _ => none, fun s => ?_⟩
  rw [aop_index]
  generalize evalA f x = X
  generalize evalA f y = Y
  cases X <;> cases Y <;> rfl
 case extract x i =>
  refine ⟨match evalA f x with
   | some u => extractA u i
   | none => none, fun s => ?_⟩
  rw [aop_extract]
  generalize evalA f x = X
  cases X <;> rfl
theorem pure_any {P : Program} {o : Oper} (h : pureOp o = true) {f : AFr} {s t : ASt} {v : Value} {s' : ASt} (ha : aop P o f s = some (.val v s')) : aop P o f t = some (.val v t) := by
 obtain ⟨r, hr⟩ := pure_look (P := P) h f
 rw [hr] at ha
 cases r with
 | none => cases ha
 | some u =>
  rw [vOf_some] at ha
  injection ha with ha; injection ha with e _; subst e
  rw [hr]; rfl
def valloc (id : Nat) : Option AR -> Option (Value × Blk)
 | some (.val v s1) =>
  match s1.blk? id with
  | some b => some (v, b)
  | none => none
 | _ => none
def wopsV (P : Program) (lib : Prims) (all : List Oper) : List Oper -> Nat -> AFr -> ASt -> (AFr -> ASt -> Prop) -> Prop
 | [], _, f, T, Q => Q f T
 | o :: r, id, f, T, Q =>
  match wantedA all o f with
  | true =>
   match quietOp P o, allocOp P o with
   | true, _ =>
    match aop P o f T with
    | some (.val v _) => valEq v v = true ∧ wput f o.dst v fun f' => wopsV P lib all r id f' T Q
    | _ => False
   | false, true =>
    match valloc id (aop P o f ⟨.nil, id⟩) with
    | some (v, b) => wput f o.dst v fun f' => wopsV P lib all r (id + 1) f' (T.put id (.blk b)) Q
    | none => False
   | false, false =>
    match aop P o f T with
    | some (.val v T') => wput f o.dst v fun f' => wopsV P lib all r id f' T' Q
    | some (.call g args) => Runs P lib g args T fun v T' => wput f o.dst v fun f' => wopsV P lib all r id f' T' Q
    | none => False
  | false => wput f o.dst undef fun f' => wopsV P lib all r (if allocOp P o then id + 1 else id) f' T Q
def vlook (P : Program) (lib : Prims) (all r : List Oper) (id : Nat) (f : AFr) (T : ASt) (d : Option Tmp) (Q : AFr -> ASt -> Prop) : Option AR -> Prop
 | some (.val v _) => valEq v v = true ∧ wput f d v fun f' => wopsV P lib all r id f' T Q
 | _ => False
def vmake (P : Program) (lib : Prims) (all r : List Oper) (id : Nat) (f : AFr) (T : ASt) (d : Option Tmp) (Q : AFr -> ASt -> Prop) : Option (Value × Blk) -> Prop
 | some (v, b) => wput f d v fun f' => wopsV P lib all r (id + 1) f' (T.put id (.blk b)) Q
 | none => False
def vstep (P : Program) (lib : Prims) (all r : List Oper) (id : Nat) (f : AFr) (d : Option Tmp) (T : ASt) (Q : AFr -> ASt -> Prop) : Option AR -> Prop
 | some (.val v T') => wput f d v fun f' => wopsV P lib all r id f' T' Q
 | some (.call g args) => Runs P lib g args T fun v T' => wput f d v fun f' => wopsV P lib all r id f' T' Q
 | none => False
def vcall (P : Program) (lib : Prims) (all r : List Oper) (id : Nat) (f : AFr) (d : Option Tmp) (Q : AFr -> ASt -> Prop) (v : Value) (T' : ASt) : Prop := wput f d v fun f' => wopsV P lib all r id f' T' Q
def vwant (P : Program) (lib : Prims) (all : List Oper) (o : Oper) (r : List Oper) (id : Nat) (f : AFr) (T : ASt) (Q : AFr -> ASt -> Prop) : Bool -> Prop
 | true =>
  match quietOp P o, allocOp P o with
  | true, _ => vlook P lib all r id f T o.dst Q (aop P o f T)
  | false, true => vmake P lib all r id f T o.dst Q (valloc id (aop P o f ⟨.nil, id⟩))
  | false, false => vstep P lib all r id f o.dst T Q (aop P o f T)
 | false => wput f o.dst undef fun f' => wopsV P lib all r (if allocOp P o then id + 1 else id) f' T Q
section
variable (P : Program) (lib : Prims) (all : List Oper) (r : List Oper) (id : Nat) (f : AFr) (T : ASt) (Q : AFr -> ASt -> Prop)
theorem wopsV_nil : wopsV P lib all [] id f T Q = Q f T := by simp only [wopsV]
theorem wopsV_cons (o : Oper) : wopsV P lib all (o :: r) id f T Q = vwant P lib all o r id f T Q (wantedA all o f) := by
 simp only [wopsV]
 cases wantedA all o f with
 | false => rfl
 | true =>
  simp only [vwant]
  cases quietOp P o with
  | true =>
   simp only
   cases aop P o f T with
   | none => rfl
   | some a => cases a <;> rfl
  | false =>
   cases allocOp P o with
   | true =>
    simp only
    cases valloc id (aop P o f ⟨.nil, id⟩) with
    | none => rfl
    | some a => rfl
   | false =>
    simp only
    cases aop P o f T with
    | none => rfl
    | some a => cases a <;> rfl
theorem vwant_quiet (o : Oper) (h : quietOp P o = true) : vwant P lib all o r id f T Q true = vlook P lib all r id f T o.dst Q (aop P o f T) := by simp only [vwant, h]
theorem vwant_alloc (o : Oper) (h : quietOp P o = false) (h2 : allocOp P o = true) : vwant P lib all o r id f T Q true = vmake P lib all r id f T o.dst Q (valloc id (aop P o f ⟨.nil, id⟩)) := by simp only [vwant, h, h2]
theorem vwant_effect (o : Oper) (h : quietOp P o = false) (h2 : allocOp P o = false) : vwant P lib all o r id f T Q true = vstep P lib all r id f o.dst T Q (aop P o f T) := by simp only [vwant, h, h2]
variable (d : Option Tmp) (ty : TypeId) (ps : String) (af : Array Edge) (gd : Option (Nat × Bool))
theorem vwant_true (o : Oper) : vwant P lib all o r id f T Q true = bif quietOp P o then vlook P lib all r id f T o.dst Q (aop P o f T) else bif allocOp P o then vmake P lib all r id f T o.dst Q (valloc id (aop P o f ⟨.nil, id⟩)) else vstep P lib all r id f o.dst T Q (aop P o f T) := by
 cases hq : quietOp P o with
 | true => rw [vwant_quiet _ _ _ _ _ _ _ _ _ hq]; rfl
 | false =>
  cases ha : allocOp P o with
  | true => rw [vwant_alloc _ _ _ _ _ _ _ _ _ hq ha]; rfl
  | false => rw [vwant_effect _ _ _ _ _ _ _ _ _ hq ha]; rfl
theorem vwant_ite (o : Oper) : vwant P lib all o r id f T Q true = if quietOp P o = true then vlook P lib all r id f T o.dst Q (aop P o f T) else if allocOp P o = true then vmake P lib all r id f T o.dst Q (valloc id (aop P o f ⟨.nil, id⟩)) else vstep P lib all r id f o.dst T Q (aop P o f T) := by
 rw [vwant_true]
 cases quietOp P o <;> cases allocOp P o <;> rfl
theorem vwant_false_some (op : Op) (t : Tmp) : vwant P lib all ⟨some t, op, ty, ps, af, gd⟩ r id f T Q false = if t < f.n then wopsV P lib all r (bif allocOp P ⟨some t, op, ty, ps, af, gd⟩ then id + 1 else id) (f.put t undef) T Q else False := by
 unfold vwant; simp only; rw [wput_some]
 cases allocOp P ⟨some t, op, ty, ps, af, gd⟩ <;> rfl
theorem vwant_false_none (op : Op) : vwant P lib all ⟨none, op, ty, ps, af, gd⟩ r id f T Q false = wopsV P lib all r (bif allocOp P ⟨none, op, ty, ps, af, gd⟩ then id + 1 else id) f T Q := by
 unfold vwant; simp only; rw [wput_none]
 cases allocOp P ⟨none, op, ty, ps, af, gd⟩ <;> rfl
theorem vlook_val (t : Tmp) (v : Value) (s' : ASt) : vlook P lib all r id f T (some t) Q (some (.val v s')) = if valEq v v = true ∧ t < f.n then wopsV P lib all r id (f.put t v) T Q else False := by
 simp only [vlook, wput_some]
 by_cases h1 : valEq v v = true <;> by_cases h2 : t < f.n <;> simp [h1, h2]
theorem vstep_val (t : Tmp) (v : Value) (s' : ASt) : vstep P lib all r id f (some t) T Q (some (.val v s')) = if t < f.n then wopsV P lib all r id (f.put t v) s' Q else False := by
 simp only [vstep, wput_some]
theorem vstep_val_none (v : Value) (s' : ASt) : vstep P lib all r id f none T Q (some (.val v s')) = wopsV P lib all r id f s' Q := by
 simp only [vstep, wput_none]
theorem vstep_call (g : FuncId) (args : List Value) : vstep P lib all r id f d T Q (some (.call g args)) = Runs P lib g args T (vcall P lib all r id f d Q) := rfl
theorem vcall_some (t : Tmp) (v : Value) (s' : ASt) : vcall P lib all r id f (some t) Q v s' = if t < f.n then wopsV P lib all r id (f.put t v) s' Q else False := by
 simp only [vcall, wput_some]
theorem vcall_none (v : Value) (s' : ASt) : vcall P lib all r id f none Q v s' = wopsV P lib all r id f s' Q := rfl
end
theorem stages_head (P : Program) : ∀ (l : List Oper) (es : List Ev) (T : ASt), ∃ r, stagesOf P l es T = T :: r := by
 intro l
 induction l with
 | nil => intro es T; exact ⟨[], by cases es <;> rfl⟩
 | cons o l ih =>
  intro es T
  cases es with
  | nil => exact ⟨[], rfl⟩
  | cons e es =>
   simp only [stagesOf]
   split
   ·exact ⟨_, rfl⟩
   ·split
    ·exact ⟨_, rfl⟩
    ·exact ih es T
def effs (P : Program) : List Oper -> Nat -> Nat
 | [], _ => 0
 | _, 0 => 0
 | o :: r, n + 1 => if effectOp P o then effs P r n + 1 else effs P r n
theorem countP_before (P : Program) : ∀ (l : List Oper) (i n : Nat), countP (fun j => Nat.blt j (i + n)) P l i = effs P l n := by
 intro l
 induction l with
 | nil => intro i n; cases n <;> rfl
 | cons o l ih =>
  intro i n
  simp only [countP]
  cases n with
  | zero =>
   have h0 : ∀ (l : List Oper) (k : Nat), i ≤ k -> countP (fun j => Nat.blt j (i + 0)) P l k = 0 := by
    intro l
    induction l with
    | nil => intro k _; rfl
    | cons p l ihl =>
     intro k hk
     have hb : Nat.blt k (i + 0) = false := by rw [← Bool.not_eq_true, Nat.blt_eq]; omega
     simp only [countP, hb, Bool.and_false, Bool.false_eq_true, if_false]
     exact ihl (k + 1) (by omega)
   have hb : Nat.blt i (i + 0) = false := by rw [← Bool.not_eq_true, Nat.blt_eq]; omega
   simp only [hb, Bool.and_false, Bool.false_eq_true, if_false, effs]
   exact h0 l (i + 1) (by omega)
  | succ n =>
   have hb : Nat.blt i (i + (n + 1)) = true := by rw [Nat.blt_eq]; omega
   have e : i + (n + 1) = (i + 1) + n := by omega
   simp only [hb, Bool.and_true, effs]
   rw [e, ih (i + 1) n]
theorem effs_append (P : Program) : ∀ (a b : List Oper), effs P (a ++ b) a.length = effs P a a.length := by
 intro a
 induction a with
 | nil => intro b; cases b <;> rfl
 | cons o a ih => intro b; simp only [List.cons_append, List.length_cons, effs]; rw [ih b]
theorem effs_snoc (P : Program) (o : Oper) : ∀ (a : List Oper), effs P (a ++ [o]) (a ++ [o]).length = if effectOp P o then effs P a a.length + 1 else effs P a a.length := by
 intro a
 induction a with
 | nil => rfl
 | cons p a ih => simp only [List.cons_append, List.length_cons, effs]; rw [ih]; split <;> split <;> rfl
theorem fill_append (p : Nat -> Bool) : ∀ (a b : List (Nat × Nat × Blk)) (T : ASt), Cl.fill p T (a ++ b) = Cl.fill p (Cl.fill p T a) b := by
 intro a
 induction a with
 | nil => intro b T; rfl
 | cons x a ih =>
  intro b T
  obtain ⟨j, id, bk⟩ := x
  simp only [List.cons_append, Cl.fill]
  split
  ·exact ih _ _
  ·exact ih _ _
theorem fill_none (p : Nat -> Bool) : ∀ (a : List (Nat × Nat × Blk)) (T : ASt), (∀ x ∈ a, p x.1 = false) -> Cl.fill p T a = T := by
 intro a
 induction a with
 | nil => intro T _; rfl
 | cons x a ih =>
  intro T h
  obtain ⟨j, id, bk⟩ := x
  have hj : p j = false := h (j, id, bk) (List.mem_cons_self ..)
  simp only [Cl.fill, hj]
  exact ih T (fun y hy => h y (List.mem_cons_of_mem _ hy))
theorem fill_here (p : Nat -> Bool) : ∀ (a : List (Nat × Nat × Blk)) (T : ASt), (∀ x ∈ a, T.heap.get x.2.1 ≠ none) -> Cl.fill p T a = T := by
 intro a
 induction a with
 | nil => intro T _; rfl
 | cons x a ih =>
  intro T h
  obtain ⟨j, id, bk⟩ := x
  have hj : T.heap.get id ≠ none := h (j, id, bk) (List.mem_cons_self ..)
  simp only [Cl.fill]
  split
  ·rename_i _ hn; exact absurd hn hj
  ·exact ih T (fun y hy => h y (List.mem_cons_of_mem _ hy))
structure Stands (s0 : ASt) (K : Nat) (i id : Nat) (as : List (Nat × Nat × Blk)) (T U : ASt) : Prop where
 fill : ∀ p : Nat -> Bool, (∀ x ∈ as, p x.1 = true) -> Cl.fill p T as = U
 here : ∀ x ∈ as, U.heap.get x.2.1 ≠ none
 before : ∀ x ∈ as, x.1 < i
 lo : s0.next ≤ id
 free : ∀ k, id ≤ k -> k < s0.next + K -> U.heap.get k = none
 next : s0.next + K ≤ U.next
 keeps : Keeps s0 U
def spare (s : ASt) (k : Nat) : ASt := ⟨s.heap, s.next + k⟩
theorem spare_zero (s : ASt) : spare s 0 = s := rfl
theorem spare_next (s : ASt) (k : Nat) : (spare s k).next = s.next + k := rfl
theorem Stay.spare (s : ASt) (k : Nat) : Stay s.next s (spare s k) := ⟨by simp [Cl.spare], fun _ _ => rfl⟩
end Go.Cl