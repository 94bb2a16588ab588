/-
 The clean machine: a statement whose order is open, in which what was there ahead of it is read out of a set of blocks that the first effects leave, ahead of the later ones: it comes to what it comes to in the text's order.
-/
import Derived.Test.YthlbahnfimigcaaLooseA
namespace Go.Cl
namespace LB
def wopsS (P : Program) (lib : Prims) (A : Nat -> Bool) (all : List Oper) : List Oper -> Nat -> Nat -> AFr -> ASt -> (AFr -> ASt -> Prop) -> Prop
 | [], _, _, f, T, Q => Q f T
 | o :: r, g, id, f, T, Q =>
  match wantedA all o f with
  | true =>
   match quietOp P o, allocOp P o with
   | true, _ =>
    match aop P o f T with
    | some (.val v _) => LA.lowO o f A = true ∧ valEq v v = true ∧ wput f o.dst v fun f' => wopsS P lib A all r g id f' T Q
    | _ => False
   | false, true =>
    match valloc id (aop P o f ⟨.nil, id⟩) with
    | some (v, bl) => wput f o.dst v fun f' => wopsS P lib A all r g (id + 1) f' (T.put id (.blk bl)) Q
    | none => False
   | false, false =>
    match aop P o f T with
    | some (.val v T') => (g ≠ 0 -> LA.StayA A T T') ∧ wput f o.dst v fun f' => wopsS P lib A all r (g - 1) id f' T' Q
    | some (.call gg args) => Runs P lib gg args T fun v T' => (g ≠ 0 -> LA.StayA A T T') ∧ wput f o.dst v fun f' => wopsS P lib A all r (g - 1) id f' T' Q
    | none => False
  | false => wput f o.dst undef fun f' => wopsS P lib A all r (if effectOp P o then g - 1 else g) (if allocOp P o then id + 1 else id) f' T Q
def slook (P : Program) (lib : Prims) (A : Nat -> Bool) (g : Nat) (all : List Oper) (o : Oper) (r : List Oper) (id : Nat) (f : AFr) (T : ASt) (Q : AFr -> ASt -> Prop) : Option AR -> Prop
 | some (.val v _) => LA.lowO o f A = true ∧ valEq v v = true ∧ wput f o.dst v fun f' => wopsS P lib A all r g id f' T Q
 | _ => False
def smake (P : Program) (lib : Prims) (A : Nat -> Bool) (g : Nat) (all r : List Oper) (id : Nat) (f : AFr) (T : ASt) (d : Option Tmp) (Q : AFr -> ASt -> Prop) : Option (Value × Blk) -> Prop
 | some (v, bl) => wput f d v fun f' => wopsS P lib A all r g (id + 1) f' (T.put id (.blk bl)) Q
 | none => False
def sstep (P : Program) (lib : Prims) (A : Nat -> Bool) (g : Nat) (all r : List Oper) (id : Nat) (f : AFr) (d : Option Tmp) (T : ASt) (Q : AFr -> ASt -> Prop) : Option AR -> Prop
 | some (.val v T') => (g ≠ 0 -> LA.StayA A T T') ∧ wput f d v fun f' => wopsS P lib A all r (g - 1) id f' T' Q
 | some (.call gg args) => Runs P lib gg args T fun v T' => (g ≠ 0 -> LA.StayA A T T') ∧ wput f d v fun f' => wopsS P lib A all r (g - 1) id f' T' Q
 | none => False
def scall (P : Program) (lib : Prims) (A : Nat -> Bool) (g : Nat) (all r : List Oper) (id : Nat) (f : AFr) (d : Option Tmp) (Q : AFr -> ASt -> Prop) (v : Value) (T' : ASt) : Prop := wput f d v fun f' => wopsS P lib A all r g id f' T' Q
def swant (P : Program) (lib : Prims) (A : Nat -> Bool) (g : Nat) (all : List Oper) (o : Oper) (r : List Oper) (id : Nat) (f : AFr) (T : ASt) (Q : AFr -> ASt -> Prop) : Bool -> Prop
 | true => bif quietOp P o then slook P lib A g all o r id f T Q (aop P o f T) else bif allocOp P o then smake P lib A g all r id f T o.dst Q (valloc id (aop P o f ⟨.nil, id⟩)) else sstep P lib A g all r id f o.dst T Q (aop P o f T)
 | false => wput f o.dst undef fun f' => wopsS P lib A all r (if effectOp P o then g - 1 else g) (if allocOp P o then id + 1 else id) f' T Q
section
variable (P : Program) (lib : Prims) (A : Nat -> Bool) (all : List Oper) (r : List Oper) (g id : Nat) (f : AFr) (T : ASt) (Q : AFr -> ASt -> Prop)
theorem wopsS_nil : wopsS P lib A all [] g id f T Q = Q f T := by simp only [wopsS]
theorem wopsS_cons (o : Oper) : wopsS P lib A all (o :: r) g id f T Q = swant P lib A g all o r id f T Q (wantedA all o f) := by
 simp only [wopsS]
 cases wantedA all o f with
 | false => rfl
 | true =>
  simp only [swant]
  cases quietOp P o with
  | true =>
   simp only [cond_true]
   cases aop P o f T with
   | none => rfl
   | some a => cases a <;> rfl
  | false =>
   cases allocOp P o with
   | true =>
    simp only [cond_true, cond_false]
    cases valloc id (aop P o f ⟨.nil, id⟩) with
    | none => rfl
    | some a => rfl
   | false =>
    simp only [cond_false]
    cases aop P o f T with
    | none => rfl
    | some a => cases a <;> rfl
variable (d : Option Tmp) (ty : TypeId) (ps : String) (af : Array Edge) (gd : Option (Nat × Bool))
theorem swant_true (o : Oper) : swant P lib A g all o r id f T Q true = bif quietOp P o then slook P lib A g all o r id f T Q (aop P o f T) else bif allocOp P o then smake P lib A g all r id f T o.dst Q (valloc id (aop P o f ⟨.nil, id⟩)) else sstep P lib A g all r id f o.dst T Q (aop P o f T) := rfl
theorem swant_ite (o : Oper) : swant P lib A g all o r id f T Q true = if quietOp P o = true then slook P lib A g all o r id f T Q (aop P o f T) else if allocOp P o = true then smake P lib A g all r id f T o.dst Q (valloc id (aop P o f ⟨.nil, id⟩)) else sstep P lib A g all r id f o.dst T Q (aop P o f T) := by
 rw [swant_true]
 cases quietOp P o <;> cases allocOp P o <;> rfl
theorem swant_false_some (op : Op) (t : Tmp) : swant P lib A g all ⟨some t, op, ty, ps, af, gd⟩ r id f T Q false = if t < f.n then wopsS P lib A all r (if quietOp P ⟨some t, op, ty, ps, af, gd⟩ = true then g else if allocOp P ⟨some t, op, ty, ps, af, gd⟩ = true then g else g - 1) (if allocOp P ⟨some t, op, ty, ps, af, gd⟩ = true then id + 1 else id) (f.put t undef) T Q else False := by
 have e : (if effectOp P ⟨some t, op, ty, ps, af, gd⟩ = true then g - 1 else g) = (if quietOp P ⟨some t, op, ty, ps, af, gd⟩ = true then g else if allocOp P ⟨some t, op, ty, ps, af, gd⟩ = true then g else g - 1) := by
  unfold effectOp
  cases quietOp P ⟨some t, op, ty, ps, af, gd⟩ <;> cases allocOp P ⟨some t, op, ty, ps, af, gd⟩ <;> rfl
 rw [← e]
 simp only [swant, wput_some]
theorem slook_val (o : Op) (t : Tmp) (v : Value) (s' : ASt) : slook P lib A g all ⟨some t, o, ty, ps, af, gd⟩ r id f T Q (some (.val v s')) = if LA.lowO ⟨some t, o, ty, ps, af, gd⟩ f A = true ∧ valEq v v = true ∧ t < f.n then wopsS P lib A all r g id (f.put t v) T Q else False := by
 simp only [slook, wput_some]
 by_cases h0 : LA.lowO ⟨some t, o, ty, ps, af, gd⟩ f A = true <;> by_cases h1 : valEq v v = true <;> by_cases h2 : t < f.n <;> simp [h0, h1, h2]
theorem sstep_call (gg : FuncId) (args : List Value) : sstep P lib A g all r id f d T Q (some (.call gg args)) = Runs P lib gg args T (fun v T' => (g ≠ 0 -> LA.StayA A T T') ∧ scall P lib A (g - 1) all r id f d Q v T') := rfl
theorem scall_some (t : Tmp) (v : Value) (s' : ASt) : scall P lib A g all r id f (some t) Q v s' = if t < f.n then wopsS P lib A all r g id (f.put t v) s' Q else False := by
 simp only [scall, wput_some]
theorem sstep_same (v : Value) : sstep P lib A g all r id f d T Q (some (.val v T)) = scall P lib A (g - 1) all r id f d Q v T := by
 simp only [sstep, scall, LA.StayA.refl, implies_true, true_and]
theorem sstep_val (v : Value) (T' : ASt) : sstep P lib A g all r id f d T Q (some (.val v T')) = ((g ≠ 0 -> LA.StayA A T T') ∧ scall P lib A (g - 1) all r id f d Q v T') := rfl
theorem scall_none (v : Value) (s' : ASt) : scall P lib A g all r id f none Q v s' = wopsS P lib A all r g id f s' Q := rfl
theorem smake_eq (v : Value) (bl : Blk) : smake P lib A g all r id f T d Q (some (v, bl)) = scall P lib A g all r (id + 1) f d Q v (T.put id (.blk bl)) := rfl
end
def looseB (P : Program) (ops : List Oper) (K0 : Nat) : Bool :=
 let ms := masks ops []
 ops.zipIdx.all fun x =>
  (ops.zipIdx.all fun y => !allocOp P y.1 || (bif Nat.blt y.2 x.2 then !LA.needsS P x.1 || Nat.testBit (nth0 ms x.2) y.2 else !Nat.testBit (nth0 ms x.2) y.2)) &&
  (!(LA.calmOp P x.1 && !pureOp x.1) || (Nat.ble (countP (fun j => !Nat.testBit (nth0 ms j) x.2) P ops 0) K0 && Nat.ble (countP (fun j => Nat.blt j x.2) P ops 0) K0)) &&
  (!(quietOp P x.1 && !LA.calmOp P x.1) || (Nat.ble (countP (fun j => !Nat.testBit (nth0 ms j) x.2) P ops 0) (countP (fun j => Nat.blt j x.2) P ops 0) && Nat.beq (countP (Nat.testBit (nth0 ms x.2)) P ops 0) (countP (fun j => Nat.blt j x.2) P ops 0)))
structure StandsS (A : Nat -> Bool) (b : Prop) (s0 : ASt) (K : Nat) (i id : Nat) (as : List (Nat × Nat × Blk)) (T U : ASt) : Prop extends Stands s0 K i id as T U where
 stT : b -> LA.StayA A s0 T
 stU : b -> LA.StayA A s0 U
 ids : ∀ x ∈ as, A x.2.1 = false
theorem calm_some {P : Program} {o : Oper} {A : Nat -> Bool} {s0 : ASt} (h : LA.calmOp P o = true) {f : AFr} {s t : ASt} (hl : LA.lowO o f A = true) (hs : pureOp o = false -> LA.StayA A s0 s) (ht : pureOp o = false -> LA.StayA A s0 t) {v : Value} {s' : ASt} (ha : aop P o f s = some (.val v s')) : aop P o f t = some (.val v t) := by
 cases hp : pureOp o with
 | true => exact pure_any hp ha
 | false => exact LA.calm_any h hl (hs hp) (ht hp) ha
theorem drawOps_loose {P : Program} {lib : Prims} {all : List Oper} {A : Nat -> Bool} (s0 : ASt) (hA : ∀ i, A i = true -> i < s0.next) (K0 : Nat) (msA : List Nat) {Q : AFr -> ASt -> Prop}
  (hcut : ∀ (o : Oper) (i : Nat), all[i]? = some o -> LA.calmOp P o = true -> pureOp o = false -> countP (fun j => !Nat.testBit (nth0 msA j) i) P all 0 ≤ K0 ∧ effs P all i ≤ K0)
  (hwin : ∀ (o : Oper) (i : Nat), all[i]? = some o -> quietOp P o = true -> LA.calmOp P o = false -> countP (fun j => !Nat.testBit (nth0 msA j) i) P all 0 ≤ effs P all i ∧ countP (Nat.testBit (nth0 msA i)) P all 0 = effs P all i)
  (hback : ∀ (o p : Oper) (i j : Nat), all[i]? = some o -> all[j]? = some p -> allocOp P p = true -> j < i -> LA.needsS P o = true -> Nat.testBit (nth0 msA i) j = true)
  (hfwd : ∀ (o p : Oper) (i j : Nat), all[i]? = some o -> all[j]? = some p -> allocOp P p = true -> i ≤ j -> Nat.testBit (nth0 msA i) j = false) :
  ∀ (l pre : List Oper) (ms : List Nat) (id : Nat) (f : AFr) (T U : ASt) (as : List (Nat × Nat × Blk)), all = pre ++ l -> ms = msA.drop pre.length -> ms.length = l.length -> id + allocs P l ≤ s0.next + allocs P all -> StandsS A (effs P pre pre.length ≤ K0) s0 (allocs P all) pre.length id as T U -> (∀ x ∈ as, ∃ p, all[x.1]? = some p ∧ allocOp P p = true) -> wopsS P lib A all l (K0 - effs P pre pre.length) id f U Q ->
  ∃ es f' T' U', (∃ n, ∀ m, n ≤ m -> drawOps P (acall P lib m) all ms l pre.length id f T as = some es) ∧ (stagesOf P l es T).getLastD T = T' ∧ framesOf l es f = f' ∧ Cl.fill (fun _ => true) T' (as ++ madeOf es pre.length) = U' ∧
   (∀ x ∈ madeOf es pre.length, pre.length ≤ x.1 ∧ ∃ p, all[x.1]? = some p ∧ allocOp P p = true) ∧
   (∀ k x, (stagesOf P l es T)[k]? = some x -> effs P pre pre.length + k ≤ K0 -> LA.StayA A s0 x) ∧ (∀ sts before, sts = before ++ stagesOf P l es T -> (∀ k x, sts[k]? = some x -> k ≤ K0 -> LA.StayA A s0 x) -> before.length = effs P pre pre.length -> checkAll P all msA (as ++ madeOf es pre.length) sts ms l es pre.length f = true) ∧ Keeps s0 U' ∧ Q f' U' := by
 intro l
 induction l with
 | nil =>
  intro pre ms id f T U as _ _ hl _ hst _ hw
  rw [wopsS_nil] at hw
  cases ms with
  | cons m r => simp at hl
  | nil => exact ⟨[], f, T, U, ⟨0, fun _ _ => rfl⟩, rfl, rfl, by simp only [madeOf, List.append_nil]; exact hst.fill _ (fun _ _ => rfl), (fun x hx => by simp [madeOf] at hx), (fun k x hx hk => by
   simp only [stagesOf] at hx
   cases k with
   | zero => simp at hx; rw [← hx]; exact hst.stT (by omega)
   | succ k => simp at hx), fun _ _ _ _ _ => rfl, hst.keeps, hw⟩
 | cons o r ih =>
  intro pre ms id f T U as hall hms hl hid hst has hw
  cases ms with
  | nil => simp at hl
  | cons m ms =>
  have hlr : ms.length = r.length := by simpa using hl
  have hall' : all = (pre ++ [o]) ++ r := by rw [hall, List.append_assoc]; rfl
  have hlen' : (pre ++ [o]).length = pre.length + 1 := by simp
  have hms' : ms = msA.drop (pre ++ [o]).length := by
   rw [hlen', ← List.drop_drop, ← hms]; rfl
  have hmA : nth0 msA pre.length = m := by
   have nth0_drop : ∀ (L : List Nat) (k : Nat) (x : Nat) (t : List Nat), L.drop k = x :: t -> nth0 L k = x := by
    intro L
    induction L with
    | nil => intro k x t h; simp at h
    | cons y L ihL =>
     intro k x t h
     cases k with
     | zero => simp at h; exact h.1
     | succ k => simp only [List.drop_succ_cons] at h; simp only [nth0]; exact ihL k x t h
   exact nth0_drop msA pre.length m ms hms.symm
  have hget : all[pre.length]? = some o := by rw [hall]; simp
  have heffs : effs P all pre.length = effs P pre pre.length := by rw [hall, effs_append]
  have hsn := effs_snoc P o pre
  have hput : ∀ (v : Value) (g' id' : Nat) (U' : ASt), (wput f o.dst v fun f' => wopsS P lib A all r g' id' f' U' Q) -> ∃ f1, putD f o.dst v = some f1 ∧ wopsS P lib A all r g' id' f1 U' Q := by
   intro v g' id' U' h
   unfold wput at h
   split at h
   ·exact ⟨_, ‹_›, h⟩
   ·exact h.elim
  have hsnE : ∀ b : Bool, effectOp P o = b -> effs P (pre ++ [o]) (pre ++ [o]).length = if b then effs P pre pre.length + 1 else effs P pre pre.length := fun b hb => by rw [hsn, hb]
  have hallocs : allocs P (o :: r) = if allocOp P o then allocs P r + 1 else allocs P r := rfl
  have hfillU : LA.needsS P o = true -> Cl.fill (Nat.testBit m) T as = U := fun hn => hst.fill _ (fun x hx => by
   obtain ⟨p, hp, hpa⟩ := has x hx
   rw [← hmA]
   exact hback o p pre.length x.1 hget hp hpa (hst.before x hx) hn)
  rw [wopsS_cons] at hw
  cases hwa : wantedA all o f with
  | false =>
   rw [hwa] at hw
   obtain ⟨f1, hp, hw⟩ := hput _ _ _ _ hw
   have hst' : StandsS A (effs P (pre ++ [o]) (pre ++ [o]).length ≤ K0) s0 (allocs P all) (pre ++ [o]).length (if allocOp P o then id + 1 else id) as T U := by
    refine ⟨⟨hst.fill, hst.here, fun x hx => by have := hst.before x hx; omega, by have := hst.lo; split <;> omega, fun k hk hk2 => hst.free k (by split at hk <;> omega) hk2, hst.next, hst.keeps⟩, fun h => hst.stT (by rw [hsn] at h; split at h <;> omega), fun h => hst.stU (by rw [hsn] at h; split at h <;> omega), hst.ids⟩
   obtain ⟨es, f', T', U', ⟨n, h1⟩, h3, h4, hf, hmd, hsts, h5, hk, h6⟩ := ih (pre ++ [o]) ms _ f1 T U as hall' hms' hlr (by rw [hallocs] at hid; split <;> split at hid <;> first | omega | contradiction) hst' has (by rw [hsn]; cases he : effectOp P o <;> simp only [he, Bool.false_eq_true, if_false, if_true] at hw ⊢ <;> first | exact hw | (rw [Nat.sub_add_eq]; exact hw))
   rw [hlen'] at h1 h5 hf hmd
   refine ⟨.skip :: es, f', T', U', ⟨n, fun q hq => ?_⟩, ?_, by simp only [framesOf, Ev.val, hp, h4], by simp only [madeOf]; exact hf, (fun x hx => by simp only [madeOf] at hx; obtain ⟨a, b⟩ := hmd x hx; exact ⟨by omega, b⟩), (fun k x hx hk => by
    simp only [stagesOf] at hx
    split at hx
    ·rename_i he
     cases k with
     | zero => simp at hx; rw [← hx]; exact hst.stT (by omega)
     | succ k => exact hsts k x (by simpa using hx) (by rw [hsn, if_pos he]; omega)
    ·rename_i he
     exact hsts k x hx (by rw [hsn, if_neg he]; omega)), fun sts before hs hss hb => ?_, hk, h6⟩
   ·simp only [drawOps, drawOp, hwa, Ev.val, hp]
    rw [h1 q hq]
   ·simp only [stagesOf]
    split
    ·obtain ⟨rr, hr⟩ := stages_head P r es T
     rw [hr] at h3 ⊢
     rw [List.getLastD_cons] at h3 ⊢
     rw [List.getLastD_cons]; exact h3
    ·exact h3
   ·simp only [checkAll, Ev.val, hp, Bool.true_and, madeOf]
    simp only [stagesOf] at hs
    split at hs
    ·rename_i he
     refine h5 sts (before ++ [T]) (by rw [hs, List.append_assoc]; rfl) hss ?_
     rw [← hlen', hsn, if_pos he, List.length_append, hb]; rfl
    ·rename_i he
     refine h5 sts before hs hss ?_
     rw [← hlen', hsn, if_neg he, hb]
  | true =>
   rw [hwa] at hw
   cases hq : quietOp P o with
   | true =>
    simp only [swant, hq, cond_true] at hw
    have hne := quiet_not_effect hq
    have hna := quiet_not_alloc hq
    rw [hallocs, if_neg (by simp [hna])] at hid
    unfold slook at hw
    split at hw
    case h_2 => exact hw.elim
    rename_i v s1 hop
    obtain ⟨hlo, hv, hw⟩ := hw
    obtain ⟨f1, hp, hw⟩ := hput _ _ _ _ hw
    have hst' : StandsS A (effs P (pre ++ [o]) (pre ++ [o]).length ≤ K0) s0 (allocs P all) (pre ++ [o]).length id as T U := ⟨⟨hst.fill, hst.here, fun x hx => by have := hst.before x hx; omega, hst.lo, hst.free, hst.next, hst.keeps⟩, fun h => hst.stT (by rw [hsnE _ hne] at h; simpa using h), fun h => hst.stU (by rw [hsnE _ hne] at h; simpa using h), hst.ids⟩
    obtain ⟨es, f', T', U', ⟨n, h1⟩, h3, h4, hf, hmd, hsts, h5, hk, h6⟩ := ih (pre ++ [o]) ms id f1 T U as hall' hms' hlr hid hst' has (by rw [hsnE _ hne]; exact hw)
    rw [hlen'] at h1 h5 hf hmd
    have hle : LA.calmOp P o = true -> pureOp o = false -> countP (fun j => !Nat.testBit (nth0 msA j) pre.length) P all 0 ≤ K0 ∧ effs P pre pre.length ≤ K0 := fun h1 h2 => by rw [← heffs]; exact hcut o pre.length hget h1 h2
    have hsee : ∃ s2, aop P o f (Cl.fill (Nat.testBit m) T as) = some (.val v s2) := by
     cases hpu : LA.calmOp P o with
     | true => exact ⟨_, calm_some hpu hlo (fun h => hst.stU (hle hpu h).2) (fun h => (hst.stT (hle hpu h).2).trans (LA.fill_stay _ _ _ _ hst.ids)) hop⟩
     | false => exact ⟨s1, by rw [hfillU (by simp [LA.needsS, hpu, hna])]; exact hop⟩
    obtain ⟨s2, hsee⟩ := hsee
    refine ⟨.quiet v :: es, f', T', U', ⟨n, fun q hqm => ?_⟩, ?_, by simp only [framesOf, Ev.val, hp, h4], by simp only [madeOf]; exact hf, (fun x hx => by simp only [madeOf] at hx; obtain ⟨a, b⟩ := hmd x hx; exact ⟨by omega, b⟩), (fun k x hx hk => hsts k x (by simpa [stagesOf, hne] using hx) (by rw [hsnE _ hne]; simpa using hk)), fun sts before hs hss hb => ?_, hk, h6⟩
    ·simp only [drawOps, drawOp, hwa, hq, hsee, Ev.val, hp, hna]
     rw [if_neg (by simp), h1 q hqm]
    ·simp only [stagesOf, hne]; simpa using h3
    ·have hs' : sts = before ++ stagesOf P r es T := by simpa [stagesOf, hne] using hs
     simp only [checkAll, Ev.val, hp, madeOf]
     rw [h5 sts before hs' hss (by rw [← hlen', hsn, if_neg (by simp [hne]), hb]), Bool.and_true]
     have hfw : ∀ X : ASt, Cl.fill (Nat.testBit m) X (as ++ madeOf es (pre.length + 1)) = Cl.fill (Nat.testBit m) X as := by
      intro X
      rw [fill_append, fill_none _ (madeOf es (pre.length + 1))]
      intro x hx
      obtain ⟨a, p, hp', hpa⟩ := hmd x hx
      rw [← hmA]
      exact hfwd o p pre.length x.1 hget hp' hpa (by omega)
     have hsame : ∀ (L : List ASt), (LA.calmOp P o = true -> pureOp o = false -> ∀ x ∈ L, LA.StayA A s0 x) -> (LA.calmOp P o = false -> ∀ x ∈ L, x = T) -> sameAt P m (as ++ madeOf es (pre.length + 1)) o f v L = true := by
      intro L
      induction L with
      | nil => intro _ _; rfl
      | cons x L ihL =>
       intro hx2 hx
       simp only [sameAt, hfw]
       have : ∃ s3, aop P o f (Cl.fill (Nat.testBit m) x as) = some (.val v s3) := by
        cases hpu : LA.calmOp P o with
        | true => exact ⟨_, calm_some hpu hlo (fun h => hst.stU (hle hpu h).2) (fun h => (hx2 hpu h x (List.mem_cons_self ..)).trans (LA.fill_stay _ _ _ _ hst.ids)) hop⟩
        | false => rw [hx hpu x (List.mem_cons_self ..)]; exact ⟨s2, hsee⟩
       obtain ⟨s3, hs3⟩ := this
       rw [hs3]
       simp only [hv, Bool.true_and]
       exact ihL (fun h1 h2 y hy => hx2 h1 h2 y (List.mem_cons_of_mem _ hy)) (fun hpu y hy => hx hpu y (List.mem_cons_of_mem _ hy))
     refine hsame _ (fun h1 h2 x hx => ?_) (fun hpu x hx => ?_)
     ·obtain ⟨k, hk⟩ := List.getElem?_of_mem (List.mem_of_mem_drop hx)
      rw [List.getElem?_take] at hk
      split at hk
      ·rename_i hkl
       have := (hle h1 h2).1
       exact hss k x hk (by omega)
      ·cases hk
     obtain ⟨t1, t2⟩ := hwin o pre.length hget hq hpu
     rw [hmA] at t2
     rw [t2] at hx
     obtain ⟨rr, hr⟩ := stages_head P r es T
     rw [heffs, ← hb, List.drop_take, hs', hr, List.drop_left] at hx
     have hk1 : countP (fun j => !Nat.testBit (nth0 msA j) pre.length) P all 0 + 1 - before.length ≤ 1 := by omega
     generalize countP (fun j => !Nat.testBit (nth0 msA j) pre.length) P all 0 + 1 - before.length = k at hx hk1
     cases k with
     | zero => simp at hx
     | succ k =>
      obtain rfl : k = 0 := by omega
      simpa using hx
   | false =>
    cases ha : allocOp P o with
    | true =>
     simp only [swant, hq, ha, cond_true, cond_false] at hw
     rw [hallocs, if_pos ha] at hid
     have hne : effectOp P o = false := by simp [effectOp, ha]
     unfold smake at hw
     split at hw
     case h_2 => exact hw.elim
     rename_i v b hop
     obtain ⟨f1, hp, hw⟩ := hput _ _ _ _ hw
     have hop' : ∃ s1, aop P o f ⟨.nil, id⟩ = some (.val v s1) ∧ s1.blk? id = some b := by
      unfold valloc at hop
      split at hop
      ·rename_i v1 s1 h1
       split at hop
       ·rename_i b1 hb1
        injection hop with hop; injection hop with e1 e2; subst e1; subst e2
        exact ⟨s1, h1, hb1⟩
       ·cases hop
      ·cases hop
     obtain ⟨s1, ho1, ho2⟩ := hop'
     have hfree := hst.free id (Nat.le_refl _) (by omega)
     have hlt : id < U.next := by have := hst.next; omega
     have hst' : StandsS A (effs P (pre ++ [o]) (pre ++ [o]).length ≤ K0) s0 (allocs P all) (pre ++ [o]).length (id + 1) (as ++ [(pre.length, id, b)]) T (U.put id (.blk b)) := by
      refine ⟨⟨fun p hp => ?_, fun x hx => ?_, fun x hx => ?_, by have := hst.lo; omega, fun k hk hk2 => ?_, by have := hst.next; simpa [ASt.put] using this, ?_⟩, fun h => hst.stT (by rw [hsnE _ hne] at h; simpa using h), fun h => (hst.stU (by rw [hsnE _ hne] at h; simpa using h)).trans ⟨Nat.le_refl _, fun i hi => ASt.get_put_ne _ _ _ _ (by have := hst.lo; have := hA i hi; omega)⟩, fun x hx => ?_⟩
      ·rw [fill_append, hst.fill p (fun x hx => hp x (List.mem_append_left _ hx))]
       have hpi : p pre.length = true := hp (pre.length, id, b) (List.mem_append_right _ (List.mem_cons_self ..))
       simp only [Cl.fill, hpi, hfree]
      ·rcases List.mem_append.mp hx with hx | hx
       ·have hh := hst.here x hx
        have : x.2.1 ≠ id := fun e => hh (by rw [e]; exact hfree)
        rw [ASt.get_put_ne _ _ _ _ (Ne.symm this)]; exact hh
       ·rw [List.mem_singleton] at hx; subst hx
        simp only [ASt.put, Tr.get_set_self _ _ _ _ (deep (by omega))]; simp
      ·rcases List.mem_append.mp hx with hx | hx
       ·have := hst.before x hx; omega
       ·rw [List.mem_singleton] at hx; subst hx; simp
      ·rw [ASt.get_put_ne _ _ _ _ (by omega)]; exact hst.free k (by omega) hk2
      ·have hk := hst.keeps
       refine ⟨hk.next, fun j hj hn => ?_, fun j hj => ?_, ⟨by omega, fun j ob hj => ?_⟩⟩
       ·have := hst.lo
        rw [ASt.get_put_ne _ _ _ _ (by omega)]; exact hk.gone j hj hn
       ·by_cases hji : id = j
        ·subst hji; simp only [ASt.put, Tr.get_set_self _ _ _ _ (deep (by omega))]; simp
        ·rw [ASt.get_put_ne _ _ _ _ hji]; exact hk.here j hj
       ·by_cases hji : id = j
        ·subst hji; simpa [ASt.put] using hlt
        ·rw [ASt.get_put_ne _ _ _ _ hji] at hj; have := hk.wf.bound j ob hj; simpa [ASt.put] using this
      ·rcases List.mem_append.mp hx with hx | hx
       ·exact hst.ids x hx
       ·rw [List.mem_singleton] at hx; subst hx; exact (by cases hAi : A id with | false => rfl | true => (have := hA id hAi; have := hst.lo; omega))
     have has' : ∀ x ∈ as ++ [(pre.length, id, b)], ∃ p, all[x.1]? = some p ∧ allocOp P p = true := by
      intro x hx
      rcases List.mem_append.mp hx with hx | hx
      ·exact has x hx
      ·rw [List.mem_singleton] at hx; subst hx; exact ⟨o, hget, ha⟩
     obtain ⟨es, f', T', U', ⟨n, h1⟩, h3, h4, hf, hmd, hsts, h5, hk, h6⟩ := ih (pre ++ [o]) ms (id + 1) f1 T _ _ hall' hms' hlr (by omega) hst' has' (by rw [hsnE _ hne]; exact hw)
     rw [hlen'] at h1 h5 hf hmd
     have hap : ∀ L, as ++ (pre.length, id, b) :: L = (as ++ [(pre.length, id, b)]) ++ L := fun L => by rw [List.append_assoc]; rfl
     refine ⟨.made v id b :: es, f', T', U', ⟨n, fun q hqm => ?_⟩, ?_, by simp only [framesOf, Ev.val, hp, h4], by simp only [madeOf]; rw [hap]; exact hf, (fun x hx => ?_), (fun k x hx hk => hsts k x (by simpa [stagesOf, hne] using hx) (by rw [hsnE _ hne]; simpa using hk)), fun sts before hs hss hb => ?_, hk, h6⟩
     ·simp only [drawOps, drawOp, hwa, hq, ha, ho1, ho2, Ev.val, hp, if_true]
      rw [h1 q hqm]
     ·simp only [stagesOf, hne]; simpa using h3
     ·simp only [madeOf] at hx
      rcases List.mem_cons.mp hx with rfl | hx
      ·exact ⟨Nat.le_refl _, o, hget, ha⟩
      ·obtain ⟨a, c⟩ := hmd x hx; exact ⟨by omega, c⟩
     ·simp only [checkAll, Ev.val, hp, Bool.true_and, madeOf]
      rw [hap]
      have hs' : sts = before ++ stagesOf P r es T := by simpa [stagesOf, hne] using hs
      exact h5 sts before hs' hss (by rw [← hlen', hsn, if_neg (by simp [hne]), hb])
    | false =>
     simp only [swant, hq, ha, cond_false] at hw
     rw [hallocs, if_neg (by simp [ha])] at hid
     have he : effectOp P o = true := by simp [effectOp, hq, ha]
     have hpu : LA.calmOp P o = false := by
      cases hpu : LA.calmOp P o with
      | false => rfl
      | true => rw [LA.cut_quiet hpu] at hq; cases hq
     have hU := hfillU (by simp [LA.needsS, hpu, ha])
     have fin : ∀ (v : Value) (U1 : ASt) (n0 : Nat), (∀ q, n0 ≤ q -> drawOp P (acall P lib q) all m id as o f T = some (.eff v U1)) -> Keeps U U1 -> (K0 - effs P pre pre.length ≠ 0 -> LA.StayA A U U1) -> (wput f o.dst v fun f' => wopsS P lib A all r (K0 - effs P pre pre.length - 1) id f' U1 Q) ->
       ∃ es f' T' U', (∃ n, ∀ m', n ≤ m' -> drawOps P (acall P lib m') all (m :: ms) (o :: r) pre.length id f T as = some es) ∧ (stagesOf P (o :: r) es T).getLastD T = T' ∧ framesOf (o :: r) es f = f' ∧ Cl.fill (fun _ => true) T' (as ++ madeOf es pre.length) = U' ∧
        (∀ x ∈ madeOf es pre.length, pre.length ≤ x.1 ∧ ∃ p, all[x.1]? = some p ∧ allocOp P p = true) ∧
        (∀ k x, (stagesOf P (o :: r) es T)[k]? = some x -> effs P pre pre.length + k ≤ K0 -> LA.StayA A s0 x) ∧ (∀ sts before, sts = before ++ stagesOf P (o :: r) es T -> (∀ k x, sts[k]? = some x -> k ≤ K0 -> LA.StayA A s0 x) -> before.length = effs P pre pre.length -> checkAll P all msA (as ++ madeOf es pre.length) sts (m :: ms) (o :: r) es pre.length f = true) ∧ Keeps s0 U' ∧ Q f' U' := by
      intro v U1 n0 hd hkU hkS hw
      obtain ⟨f1, hp, hw⟩ := hput _ _ _ _ hw
      have hhere : ∀ x ∈ as, U1.heap.get x.2.1 ≠ none := fun x hx => hkU.here _ (hst.here x hx)
      have hst' : StandsS A (effs P (pre ++ [o]) (pre ++ [o]).length ≤ K0) s0 (allocs P all) (pre ++ [o]).length id as U1 U1 := by
       refine ⟨⟨fun p hp => fill_here p as U1 hhere, hhere, fun x hx => by have := hst.before x hx; omega, hst.lo, fun k hk hk2 => hkU.gone k (by have := hst.next; omega) (hst.free k hk hk2), by have := hst.next; have := hkU.next; omega, hst.keeps.trans hkU⟩, fun h => (hst.stU (by rw [hsnE _ he] at h; simp at h; omega)).trans (hkS (by rw [hsnE _ he] at h; simp at h; omega)), fun h => (hst.stU (by rw [hsnE _ he] at h; simp at h; omega)).trans (hkS (by rw [hsnE _ he] at h; simp at h; omega)), hst.ids⟩
      obtain ⟨es, f', T', U', ⟨n, h1⟩, h3, h4, hf, hmd, hsts, h5, hk, h6⟩ := ih (pre ++ [o]) ms id f1 U1 U1 as hall' hms' hlr hid hst' has (by rw [hsnE _ he, if_pos rfl, Nat.sub_add_eq]; exact hw)
      rw [hlen'] at h1 h5 hf hmd
      refine ⟨.eff v U1 :: es, f', T', U', ⟨n + n0, fun q hqm => ?_⟩, ?_, by simp only [framesOf, Ev.val, hp, h4], by simp only [madeOf]; exact hf, (fun x hx => by simp only [madeOf] at hx; obtain ⟨a, b⟩ := hmd x hx; exact ⟨by omega, b⟩), (fun k x hx hk => by
       simp only [stagesOf] at hx
       cases k with
       | zero => simp at hx; rw [← hx]; exact hst.stT (by omega)
       | succ k => exact hsts k x (by simpa using hx) (by rw [hsnE _ he, if_pos rfl]; omega)), fun sts before hs hss hb => ?_, hk, h6⟩
      ·simp only [drawOps, hd q (by omega), Ev.val, hp, ha]
       rw [if_neg (by simp), h1 q (by omega)]
      ·simp only [stagesOf]
       obtain ⟨rr, hr⟩ := stages_head P r es U1
       rw [hr] at h3 ⊢
       rw [List.getLastD_cons] at h3 ⊢
       rw [List.getLastD_cons]; exact h3
      ·simp only [checkAll, Ev.val, hp, Bool.true_and, madeOf]
       simp only [stagesOf] at hs
       refine h5 sts (before ++ [T]) (by rw [hs, List.append_assoc]; rfl) hss ?_
       rw [← hlen', hsn, if_pos he, List.length_append, hb]; rfl
     unfold sstep at hw
     split at hw
     case h_3 => exact hw.elim
     ·rename_i v U1 hop
      obtain ⟨hkS, hw⟩ := hw
      exact fin v U1 0 (fun q _ => by simp only [drawOp, hwa, hq, ha, hU, hop]) (aop_keeps hst.keeps.wf hop) hkS hw
     ·rename_i g args hop
      obtain ⟨v, U1, ⟨nc, hc⟩, hkU, hkS, hw⟩ := hw hst.keeps.wf
      exact fin v U1 nc (fun q hqm => by simp only [drawOp, hwa, hq, ha, hU, hop, hc q hqm]) hkU hkS hw
theorem Drawn.loose {P : Program} {lib : Prims} {ops : List Oper} {A : Nat -> Bool} (K0 : Nat) (ht : looseB P ops K0 = true) {f : AFr} {s : ASt} {Q : AFr -> ASt -> Prop} (hA : ∀ i, A i = true -> i < s.next) (h : wopsS P lib A ops ops K0 s.next f (spare s (allocs P ops)) Q) : Drawn P lib ops f s Q := by
 intro hwf
 simp only [looseB, List.all_eq_true, Bool.and_eq_true, Bool.or_eq_true, Bool.not_eq_true'] at ht
 have hmem : ∀ (o : Oper) (i : Nat), ops[i]? = some o -> (o, i) ∈ ops.zipIdx := fun o i hi => by rw [List.mem_zipIdx_iff_getElem?]; simpa using hi
 have hms : (masks ops []).length = ops.length := by
  obtain ⟨r, h1, h2⟩ := masks_pre ops []
  rw [h1]; simpa using h2
 have hfree : ∀ k, s.next ≤ k -> s.heap.get k = none := fun k hk1 => by
  cases hg : s.heap.get k with
  | none => rfl
  | some o => have := hwf.bound k o hg; omega
 have hk0 : Keeps s (spare s (allocs P ops)) := ⟨by simp [spare], fun _ _ h => h, fun _ h => h, ⟨by omega, fun j o hj => by have := hwf.bound j o hj; simp only [spare]; omega⟩⟩
 obtain ⟨es, f', T', U', ⟨n, h1⟩, h3, h4, hf, hmd, hsts, h5, hk, h6⟩ := drawOps_loose (P := P) (lib := lib) (all := ops) (A := A) s hA K0 (masks ops []) (Q := Q) (fun o i hi hc hp => by
   have := (ht (o, i) (hmem o i hi)).1.2
   have hcb := countP_before P ops 0 i
   rw [Nat.zero_add] at hcb
   rcases this with h | h
   ·simp [hc, hp] at h
   ·obtain ⟨t1, t2⟩ := h
    rw [hcb] at t2
    exact ⟨by simpa [Nat.ble_eq] using t1, by simpa [Nat.ble_eq] using t2⟩)
  (fun o i hi hq hp => by
   have := (ht (o, i) (hmem o i hi)).2
   have hcb := countP_before P ops 0 i
   rw [Nat.zero_add] at hcb
   rcases this with h | h
   ·simp [hq, hp] at h
   ·obtain ⟨t1, t2⟩ := h
    rw [hcb] at t1 t2
    exact ⟨by simpa [Nat.ble_eq] using t1, by simpa [Nat.beq_eq] using t2⟩)
  (fun o p i j hi hj ha hji hn => by
   have := (ht (o, i) (hmem o i hi)).1.1 (p, j) (hmem p j hj)
   have hb : Nat.blt j i = true := by simpa [Nat.blt_eq] using hji
   simp only [ha, hb, cond_true, hn] at this
   simpa using this)
  (fun o p i j hi hj ha hij => by
   have := (ht (o, i) (hmem o i hi)).1.1 (p, j) (hmem p j hj)
   have hb : Nat.blt j i = false := by rw [← Bool.not_eq_true, Nat.blt_eq]; omega
   simp only [ha, hb, cond_false] at this
   simpa using this)
  ops [] (masks ops []) s.next f (spare s (allocs P ops)) (spare s (allocs P ops)) [] rfl rfl hms (by omega)
  ⟨⟨fun _ _ => rfl, fun _ hx => (by cases hx), fun _ hx => (by cases hx), Nat.le_refl _, fun k hk1 _ => hfree k hk1, by simp [spare], hk0⟩, fun _ => LA.Stay.toA hA (Stay.spare _ _), fun _ => LA.Stay.toA hA (Stay.spare _ _), fun _ hx => (by cases hx)⟩ (fun _ hx => (by cases hx)) h
 simp only [List.nil_append, List.length_nil] at h1 h5 hf hmd
 refine ⟨f', U', ⟨n, fun m hm => ?_⟩, hk, h6⟩
 unfold drawRun
 have h1' := h1 m hm
 have hb : Nat.ble 0 16000000 = true := rfl
 simp only [hb]
 show (match drawOps P (acall P lib m) ops (masks ops []) ops 0 s.next f (spare s (allocs P ops)) [] with
  | some es => match checkAll P ops (masks ops []) (madeOf es 0) (stagesOf P ops es (spare s (allocs P ops))) (masks ops []) ops es 0 f with
   | true => some (framesOf ops es f, Cl.fill (fun _ => true) ((stagesOf P ops es (spare s (allocs P ops))).getLastD s) (madeOf es 0))
   | false => none
  | none => none) = _
 rw [h1']
 have h5' := h5 (stagesOf P ops es (spare s (allocs P ops))) [] rfl (fun k x hx hk => hsts k x hx (by simpa [effs] using hk)) rfl
 simp only [h5', h4]
 obtain ⟨rr, hr⟩ := stages_head P ops es (spare s (allocs P ops))
 rw [hr] at h3 ⊢
 rw [List.getLastD_cons] at h3 ⊢
 rw [h3, hf]
theorem Drawn.looseK {P : Program} {lib : Prims} {ops : List Oper} {f : AFr} {s : ASt} {Q : AFr -> ASt -> Prop} (A : Nat -> Bool) (hA : ∀ i, A i = true -> i < s.next) (g k : Nat) (ht : looseB P ops g = true) (hk : Nat.beq (allocs P ops) k = true) (h : wopsS P lib A ops ops g s.next f (spare s k) Q) : wdraw P lib ops f s Q false := by
 have : allocs P ops = k := by simpa [Nat.beq_eq] using hk
 exact Drawn.loose g ht hA (by rw [this]; exact h)
section
variable {P : Program} {lib : Prims} {A : Nat -> Bool} {g : Nat} {all r : List Oper} {id : Nat} {f : AFr} {T : ASt} {d : Option Tmp} {Q : AFr -> ASt -> Prop}
theorem smake_newSlice {cs : List Value} {n z base : Nat} (h : cs.length = n * z) (hid : id < T.next) (hb : base ≤ id)
  (K : ∀ v T', Own T' z v n cs -> idOf v = some id -> Stay base T T' -> T'.next = T.next -> (∀ j, j ≠ id -> T'.heap.get j = T.heap.get j) -> scall P lib A g all r (id + 1) f d Q v T') : smake P lib A g all r id f T d Q (valloc id (pOf (newSlice ⟨.nil, id⟩ cs n z))) := by
 have e : valloc id (pOf (newSlice ⟨.nil, id⟩ cs n z)) = some (.slice (some ⟨id, 0, none⟩) n (cs.length + 1), ⟨cs, 1, true, z⟩) := by
  have : newSlice ⟨.nil, id⟩ cs n z = some (.slice (some ⟨id, 0, none⟩) n (cs.length + 1), (⟨.nil, id⟩ : ASt).new (.blk ⟨cs, 1, true, z⟩)) := by simp [newSlice, ASt.room]
  rw [this, pOf_some]
  have hb : ((⟨.nil, id⟩ : ASt).new (.blk ⟨cs, 1, true, z⟩)).blk? id = some ⟨cs, 1, true, z⟩ := blk_new ⟨.nil, id⟩ _
  simp only [valloc, hb]
 rw [e, smake_eq]
 have hoth : ∀ j, j ≠ id -> (T.put id (.blk ⟨cs, 1, true, z⟩)).heap.get j = T.heap.get j := fun j hj => ASt.get_put_ne _ _ _ _ (Ne.symm hj)
 refine K _ _ (.of id n 1 cs (by simpa [ASt.put] using hid) (ASt.blk?_put_self _ _ _ (by omega)) (by omega) h) rfl ⟨Nat.le_refl _, fun j hj => hoth j (by omega)⟩ rfl hoth
theorem sstep_append {st xt e : TypeId} {xd : TypeDesc} {z by8 : Nat} {zv : Value} (hu : P.underlying st = some (.slice e)) (hux : P.underlying xt = some xd) (hxd : (∃ e2, xd = .slice e2) ∨ xd = .string) (hsz : sizeB P e = some z) (hby : bytesB P e = some by8) (hzv : zeroB P e = some zv) (hzl : Nat.beq zv.cells.toList.length z = true)
  {x y : Value} {n m : Nat} {l new : List Value} (hx : Own T z x n l) (hy : srcCells T z y = some (m, new)) (hnew : new.length = m * z) (hz0 : 0 < z) (hok : new.all okCell = true) (hb1 : (n + m) * by8 ≤ 140737488355328) (hb2 : n + m ≤ 140737488355328) {base : Nat} (hF : Fresh base x) (hB : base ≤ T.next) (hA1 : g ≠ 0 -> ∀ i, idOf x = some i -> A i = false) (hA2 : ∀ i, A i = true -> i < T.next)
  (K : ∀ x' T', Own T' z x' (n + m) (l ++ new) -> Fresh base x' -> Turns x T T' -> (idOf x' = idOf x ∨ ∃ i, idOf x' = some i ∧ T.next ≤ i) -> scall P lib A (g - 1) all r id f d Q x' T') : sstep P lib A g all r id f d T Q (pOf (appendA P T st xt x y)) := by
 obtain ⟨x', s', h1, h2, h3, h4⟩ := Own.append hu hux hxd hsz hby hzv hzl hx hy hnew hz0 hok hb1 hb2
 rw [h1, pOf_some]
 have hk : g ≠ 0 -> LA.StayA A T s' := fun hg => ⟨h3.next, fun i hi => h3.get i (hA2 i hi) (fun e => by have := hA1 hg i e; rw [hi] at this; cases this)⟩
 refine ⟨hk, K _ _ h2 (fun i hi => ?_) h3 h4⟩
 rcases h4 with h4 | ⟨j, hj, hl⟩
 ·exact hF i (by rw [← h4]; exact hi)
 ·rw [hj] at hi; injection hi with hi; omega
end
end LB
theorem allB : type_of%
 (And.intro (And.intro (And.intro @LB.wopsS_nil @LB.wopsS_cons) (And.intro @LB.swant_ite @LB.swant_false_some)) (And.intro (And.intro @LB.slook_val
 @LB.scall_some) (And.intro @LB.scall_none (And.intro @LB.sstep_call @LB.sstep_same)))) :=
 (And.intro (And.intro (And.intro @LB.wopsS_nil @LB.wopsS_cons) (And.intro @LB.swant_ite @LB.swant_false_some)) (And.intro (And.intro @LB.slook_val
 @LB.scall_some) (And.intro @LB.scall_none (And.intro @LB.sstep_call @LB.sstep_same))))
end Go.Cl