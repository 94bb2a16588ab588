/-
 The clean machine: a statement whose order is open, in which slices are cut of what was there ahead of it, and which turns new blocks alone: it comes to what it comes to in the text's order.
-/
import Derived.Test.YthlbahnfimigcaaRul
namespace Go.Cl
def cutOp (o : Oper) : Bool :=
 match o.op with
 | .slice _ _ _ _ _ => true
 | .load _ _ => true
 | .call ⟨.builtin .len, _, _⟩ => true
 | _ => false
def calmOp (o : Oper) : Bool := pureOp o || cutOp o
def lowV (b : Nat) : Option Value -> Bool
 | some (.slice (some a) _ c) => Nat.blt a.block b || Nat.beq c 0
 | some (.slice none _ _) => true
 | some (.string _) => true
 | some (.pointer (some a)) => Nat.blt a.block b
 | _ => false
def lowL : Option (List Value) -> Bool
 | some [.slice _ _ _] => true
 | some [.string _] => true
 | _ => false
def lowO (o : Oper) (f : AFr) (b : Nat) : Bool :=
 match o.op with
 | .slice _ x _ _ _ => lowV b (evalA f x)
 | .load _ x => lowV b (evalA f x)
 | .call ⟨.builtin .len, args, _⟩ => lowL (evalAll f args.toList)
 | _ => true
theorem sliceA_low {P : Program} {s t : ASt} {b : Nat} (h : Stay b s t) {ty : TypeId} {u : Value} {lo hi mx : Option Value} (hl : lowV b (some u) = true) : sliceA P s ty u lo hi mx = sliceA P t ty u lo hi mx := by
 unfold sliceA
 generalize P.underlying ty = U
 have ee : ∀ i c, (i < b ∨ c = 0) -> ∀ z, eszIs s i c z = eszIs t i c z := fun i c hi z => by
  unfold eszIs
  cases c with
  | zero => rfl
  | succ c => simp only [ASt.blk?, h.get i (hi.resolve_right (by omega))]
 cases U with
 | none => rfl
 | some D =>
  cases u with
  | slice a n c =>
   cases a with
   | none => cases D <;> rfl
   | some a =>
    obtain ⟨i, off, sp⟩ := a
    have hi : i < b ∨ c = 0 := by simpa [lowV, Nat.blt_eq] using hl
    cases sp with
    | none => cases D <;> simp only [ee i c hi]
    | some k => cases D <;> rfl
  | string x => cases D <;> rfl
  | pointer a =>
   cases a with
   | none => simp [lowV] at hl
   | some a =>
    obtain ⟨i, off, sp⟩ := a
    have hi : i < b := by simpa [lowV, Nat.blt_eq] using hl
    have hb : s.blk? i = t.blk? i := by simp only [ASt.blk?, h.get i hi]
    cases sp with
    | none => cases D <;> rfl
    | some k => cases D <;> simp only [hb]
  | _ => simp [lowV] at hl
theorem loadA_low {P : Program} {s t : ASt} {b : Nat} (h : Stay b s t) {ty : TypeId} {u : Value} (hl : lowV b (some u) = true) : loadA P s ty u = loadA P t ty u := by
 unfold loadA
 cases u with
 | pointer a =>
  cases a with
  | none => rfl
  | some a =>
   obtain ⟨i, off, sp⟩ := a
   have hi : i < b := by simpa [lowV, Nat.blt_eq] using hl
   have hb : ∀ off c n, s.cellsAt i off c n = t.cellsAt i off c n := fun off c n => by simp only [ASt.cellsAt, ASt.blk?, h.get i hi]
   cases sp with
   | none => rfl
   | some k => simp only [hb]
 | _ => rfl
theorem lenA_low {P : Program} {s t : ASt} {ty : TypeId} {u : Value} (hl : lowL (some [u]) = true) : lenA P s ty u = lenA P t ty u := by
 unfold lenA
 generalize P.underlying ty = U
 cases U with
 | none => rfl
 | some D =>
  cases u with
  | slice a n c => cases D <;> rfl
  | string x => cases D <;> rfl
  | _ => simp [lowL] at hl
theorem calm_any {P : Program} {o : Oper} {b : Nat} {s0 : ASt} (h : calmOp o = true) {f : AFr} {s t : ASt} (hl : lowO o f b = true) (hs : Stay b s0 s) (ht : Stay b s0 t) {v : Value} {s' : ASt} (ha : aop P o f s = some (.val v s')) : aop P o f t = some (.val v t) := by
 cases hp : pureOp o with
 | true => exact pure_any hp ha
 | false =>
  simp only [calmOp, hp, Bool.false_or] at h
  obtain ⟨dst, op, type, pos, after, guard⟩ := o
  have htrans : ∀ {r1 r2 : Option Value}, r1 = r2 -> vOf s r1 = some (.val v s') -> vOf t r2 = some (.val v t) := by
   intro r1 r2 e hv
   subst e
   cases r1 with
   | none => cases hv
   | some w =>
    rw [vOf_some] at hv
    injection hv with hv; injection hv with hv _; subst hv; rfl
  cases op <;> simp only [cutOp] at h <;> try (cases h; done)
  case slice ty x lo hi mx =>
   rw [aop_slice] at ha ⊢
   simp only [lowO] at hl
   split at ha
   ·rename_i u l hh m hu h2 h3 h4
    rw [hu] at hl
    have e1 := sliceA_low (P := P) hs (ty := ty) (lo := l) (hi := hh) (mx := m) hl
    have e2 := sliceA_low (P := P) ht (ty := ty) (lo := l) (hi := hh) (mx := m) hl
    exact htrans (by rw [← e1, ← e2]) ha
   ·cases ha
  case load ty x =>
   rw [aop_load] at ha ⊢
   simp only [lowO] at hl
   split at ha
   ·rename_i u hu
    rw [hu] at hl
    have e1 := loadA_low (P := P) hs (ty := ty) hl
    have e2 := loadA_low (P := P) ht (ty := ty) hl
    exact htrans (by rw [← e1, ← e2]) ha
   ·cases ha
  case call cl =>
   obtain ⟨callee, args, ts⟩ := cl
   cases callee with
   | builtin bi =>
    cases bi <;> simp only at h <;> try (cases h; done)
    simp only [lowO] at hl
    rw [aop_call_builtin] at ha ⊢
    cases hev : evalAll f args.toList with
    | none => rw [hev] at hl; simp [lowL] at hl
    | some vs =>
     rw [hev] at hl ha
     match vs, hl with
     | [u], hl =>
      simp only at ha ⊢
      unfold builtinA at ha ⊢
      split at ha <;> rename_i hts <;> simp_all
      rw [← lenA_low (P := P) (s := s) (t := t) hl]; exact htrans ha
     | [], hl => simp [lowL] at hl
     | a :: b :: r, hl => cases a <;> simp [lowL] at hl
   | _ => simp at h
theorem fill_stay (p : Nat -> Bool) (b : Nat) : ∀ (as : List (Nat × Nat × Blk)) (T : ASt), (∀ x ∈ as, b ≤ x.2.1) -> Stay b T (Cl.fill p T as) := by
 intro as
 induction as with
 | nil => intro T _; exact Stay.refl _ _
 | cons x as ih =>
  intro T h
  obtain ⟨j, id, bk⟩ := x
  have hid : b ≤ id := h (j, id, bk) (List.mem_cons_self ..)
  have hr := fun y hy => h y (List.mem_cons_of_mem _ hy)
  simp only [Cl.fill]
  split
  ·exact Stay.trans (s' := T.put id (.blk bk)) ⟨Nat.le_refl _, fun i hi => ASt.get_put_ne _ _ _ _ (by omega)⟩ (ih _ hr)
  ·exact ih _ hr
def wopsS (P : Program) (lib : Prims) (b : Nat) (all : List Oper) : List Oper -> Nat -> AFr -> ASt -> (AFr -> ASt -> Prop) -> Prop
 | [], _, f, T, Q => Q f T
 | o :: r, id, f, T, Q =>
  match wantedA all o f with
  | true =>
   match quietOp P o, allocOp P o with
   | true, _ =>
    match aop P o f T with
    | some (.val v _) => lowO o f b = true ∧ valEq v v = true ∧ wput f o.dst v fun f' => wopsS P lib b all r id f' T Q
    | _ => False
   | false, true =>
    match valloc id (aop P o f ⟨.nil, id⟩) with
    | some (v, bl) => wput f o.dst v fun f' => wopsS P lib b all r (id + 1) f' (T.put id (.blk bl)) Q
    | none => False
   | false, false =>
    match aop P o f T with
    | some (.val v T') => Stay b T T' ∧ wput f o.dst v fun f' => wopsS P lib b all r id f' T' Q
    | some (.call g args) => Runs P lib g args T fun v T' => Stay b T T' ∧ wput f o.dst v fun f' => wopsS P lib b all r id f' T' Q
    | none => False
  | false => wput f o.dst undef fun f' => wopsS P lib b all r (if allocOp P o then id + 1 else id) f' T Q
def slook (P : Program) (lib : Prims) (b : Nat) (all : List Oper) (o : Oper) (r : List Oper) (id : Nat) (f : AFr) (T : ASt) (Q : AFr -> ASt -> Prop) : Option AR -> Prop
 | some (.val v _) => lowO o f b = true ∧ valEq v v = true ∧ wput f o.dst v fun f' => wopsS P lib b all r id f' T Q
 | _ => False
def smake (P : Program) (lib : Prims) (b : Nat) (all r : List Oper) (id : Nat) (f : AFr) (T : ASt) (d : Option Tmp) (Q : AFr -> ASt -> Prop) : Option (Value × Blk) -> Prop
 | some (v, bl) => wput f d v fun f' => wopsS P lib b all r (id + 1) f' (T.put id (.blk bl)) Q
 | none => False
def sstep (P : Program) (lib : Prims) (b : Nat) (all r : List Oper) (id : Nat) (f : AFr) (d : Option Tmp) (T : ASt) (Q : AFr -> ASt -> Prop) : Option AR -> Prop
 | some (.val v T') => Stay b T T' ∧ wput f d v fun f' => wopsS P lib b all r id f' T' Q
 | some (.call g args) => Runs P lib g args T fun v T' => Stay b T T' ∧ wput f d v fun f' => wopsS P lib b all r id f' T' Q
 | none => False
def scall (P : Program) (lib : Prims) (b : Nat) (all r : List Oper) (id : Nat) (f : AFr) (d : Option Tmp) (Q : AFr -> ASt -> Prop) (v : Value) (T' : ASt) : Prop := wput f d v fun f' => wopsS P lib b all r id f' T' Q
def swant (P : Program) (lib : Prims) (b : Nat) (all : List Oper) (o : Oper) (r : List Oper) (id : Nat) (f : AFr) (T : ASt) (Q : AFr -> ASt -> Prop) : Bool -> Prop
 | true => bif quietOp P o then slook P lib b all o r id f T Q (aop P o f T) else bif allocOp P o then smake P lib b all r id f T o.dst Q (valloc id (aop P o f ⟨.nil, id⟩)) else sstep P lib b all r id f o.dst T Q (aop P o f T)
 | false => wput f o.dst undef fun f' => wopsS P lib b all r (if allocOp P o then id + 1 else id) f' T Q
section
variable (P : Program) (lib : Prims) (b : Nat) (all : List Oper) (r : List Oper) (id : Nat) (f : AFr) (T : ASt) (Q : AFr -> ASt -> Prop)
theorem wopsS_nil : wopsS P lib b all [] id f T Q = Q f T := by simp only [wopsS]
theorem wopsS_cons (o : Oper) : wopsS P lib b all (o :: r) id f T Q = swant P lib b all o r id f T Q (wantedA all o f) := by
 simp only [wopsS]
 cases wantedA all o f with
 | false => rfl
 | true =>
  simp only [swant]
  cases quietOp P o with
  | true =>
   simp only [cond_true]
   cases aop P o f T with
   | none => rfl
   | some a => cases a <;> rfl
  | false =>
   cases allocOp P o with
   | true =>
    simp only [cond_true, cond_false]
    cases valloc id (aop P o f ⟨.nil, id⟩) with
    | none => rfl
    | some a => rfl
   | false =>
    simp only [cond_false]
    cases aop P o f T with
    | none => rfl
    | some a => cases a <;> rfl
variable (d : Option Tmp) (ty : TypeId) (ps : String) (af : Array Edge) (gd : Option (Nat × Bool))
theorem swant_true (o : Oper) : swant P lib b all o r id f T Q true = bif quietOp P o then slook P lib b all o r id f T Q (aop P o f T) else bif allocOp P o then smake P lib b all r id f T o.dst Q (valloc id (aop P o f ⟨.nil, id⟩)) else sstep P lib b all r id f o.dst T Q (aop P o f T) := rfl
theorem swant_ite (o : Oper) : swant P lib b all o r id f T Q true = if quietOp P o = true then slook P lib b all o r id f T Q (aop P o f T) else if allocOp P o = true then smake P lib b all r id f T o.dst Q (valloc id (aop P o f ⟨.nil, id⟩)) else sstep P lib b all r id f o.dst T Q (aop P o f T) := by
 rw [swant_true]
 cases quietOp P o <;> cases allocOp P o <;> rfl
theorem swant_false_some (op : Op) (t : Tmp) : swant P lib b all ⟨some t, op, ty, ps, af, gd⟩ r id f T Q false = if t < f.n then wopsS P lib b all r (if allocOp P ⟨some t, op, ty, ps, af, gd⟩ then id + 1 else id) (f.put t undef) T Q else False := by
 simp only [swant, wput_some]
theorem slook_val (o : Op) (t : Tmp) (v : Value) (s' : ASt) : slook P lib b all ⟨some t, o, ty, ps, af, gd⟩ r id f T Q (some (.val v s')) = if lowO ⟨some t, o, ty, ps, af, gd⟩ f b = true ∧ valEq v v = true ∧ t < f.n then wopsS P lib b all r id (f.put t v) T Q else False := by
 simp only [slook, wput_some]
 by_cases h0 : lowO ⟨some t, o, ty, ps, af, gd⟩ f b = true <;> by_cases h1 : valEq v v = true <;> by_cases h2 : t < f.n <;> simp [h0, h1, h2]
theorem sstep_call (g : FuncId) (args : List Value) : sstep P lib b all r id f d T Q (some (.call g args)) = Runs P lib g args T (fun v T' => Stay b T T' ∧ scall P lib b all r id f d Q v T') := rfl
theorem scall_some (t : Tmp) (v : Value) (s' : ASt) : scall P lib b all r id f (some t) Q v s' = if t < f.n then wopsS P lib b all r id (f.put t v) s' Q else False := by
 simp only [scall, wput_some]
theorem sstep_same (v : Value) : sstep P lib b all r id f d T Q (some (.val v T)) = scall P lib b all r id f d Q v T := by
 simp only [sstep, scall, Stay.refl, true_and]
theorem scall_none (v : Value) (s' : ASt) : scall P lib b all r id f none Q v s' = wopsS P lib b all r id f s' Q := rfl
theorem smake_eq (v : Value) (bl : Blk) : smake P lib b all r id f T d Q (some (v, bl)) = scall P lib b all r (id + 1) f d Q v (T.put id (.blk bl)) := rfl
theorem low_move (x : Operand) : lowO ⟨d, .move x, ty, ps, af, gd⟩ f b = true := rfl
theorem low_assign (x : Operand) : lowO ⟨d, .assign x, ty, ps, af, gd⟩ f b = true := rfl
theorem low_pick (x y z : Operand) : lowO ⟨d, .pick x y z, ty, ps, af, gd⟩ f b = true := rfl
theorem low_nilCheck (x : Operand) : lowO ⟨d, .nilCheck x, ty, ps, af, gd⟩ f b = true := rfl
theorem low_binOp (o : BinOp) (t : TypeId) (x y : Operand) (u : TypeId) : lowO ⟨d, .binOp o t x y u, ty, ps, af, gd⟩ f b = true := rfl
theorem low_unOp (o : UnOp) (t : TypeId) (x : Operand) : lowO ⟨d, .unOp o t x, ty, ps, af, gd⟩ f b = true := rfl
theorem low_convert (t u : TypeId) (x : Operand) : lowO ⟨d, .convert t u x, ty, ps, af, gd⟩ f b = true := rfl
theorem low_fieldAddr (t : TypeId) (x : Operand) (i : Nat) : lowO ⟨d, .fieldAddr t x i, ty, ps, af, gd⟩ f b = true := rfl
theorem low_field (t : TypeId) (x : Operand) (i : Nat) : lowO ⟨d, .field t x i, ty, ps, af, gd⟩ f b = true := rfl
theorem low_indexAddr (t : TypeId) (x y : Operand) : lowO ⟨d, .indexAddr t x y, ty, ps, af, gd⟩ f b = true := rfl
theorem low_index (t : TypeId) (x y : Operand) : lowO ⟨d, .index t x y, ty, ps, af, gd⟩ f b = true := rfl
theorem low_extract (x : Operand) (i : Nat) : lowO ⟨d, .extract x i, ty, ps, af, gd⟩ f b = true := rfl
theorem low_load (t : TypeId) (x : Operand) : lowO ⟨d, .load t x, ty, ps, af, gd⟩ f b = lowV b (evalA f x) := rfl
theorem low_len (args : Array Operand) (ts : Array TypeId) : lowO ⟨d, .call ⟨.builtin .len, args, ts⟩, ty, ps, af, gd⟩ f b = lowL (evalAll f args.toList) := rfl
theorem lowL_string (x : ByteArray) : lowL (some [.string x]) = true := rfl
theorem lowV_ptr {i o : Nat} {c : Option Nat} (h : i < b) : lowV b (some (.pointer (some ⟨i, o, c⟩))) = true := by simpa [lowV, Nat.blt_eq] using h
theorem low_slice (t : TypeId) (x : Operand) (lo hi mx : Option Operand) : lowO ⟨d, .slice t x lo hi mx, ty, ps, af, gd⟩ f b = lowV b (evalA f x) := rfl
end
theorem lowL_sees {s : ASt} {z : Nat} {v : Value} {n : Nat} {l : List Value} (h : Sees s z v n l) : lowL (some [v]) = true := by
 cases h <;> rfl
def needsS (P : Program) (o : Oper) : Bool := !calmOp o && !allocOp P o
def looseB (P : Program) (ops : List Oper) : Bool :=
 let ms := masks ops []
 ops.zipIdx.all fun x =>
  (ops.zipIdx.all fun y => !allocOp P y.1 || (bif Nat.blt y.2 x.2 then !needsS P x.1 || Nat.testBit (nth0 ms x.2) y.2 else !Nat.testBit (nth0 ms x.2) y.2)) &&
  (!(quietOp P x.1 && !calmOp x.1) || (Nat.ble (countP (fun j => !Nat.testBit (nth0 ms j) x.2) P ops 0) (countP (fun j => Nat.blt j x.2) P ops 0) && Nat.beq (countP (Nat.testBit (nth0 ms x.2)) P ops 0) (countP (fun j => Nat.blt j x.2) P ops 0)))
structure StandsS (s0 : ASt) (K : Nat) (i id : Nat) (as : List (Nat × Nat × Blk)) (T U : ASt) : Prop extends Stands s0 K i id as T U where
 stT : Stay s0.next s0 T
 stU : Stay s0.next s0 U
 ids : ∀ x ∈ as, s0.next ≤ x.2.1
theorem cut_quiet {P : Program} {o : Oper} (h : calmOp o = true) : quietOp P o = true := by
 cases hp : pureOp o with
 | true => exact pure_quiet hp
 | false =>
  simp only [calmOp, hp, Bool.false_or] at h
  obtain ⟨dst, op, type, pos, after, guard⟩ := o
  cases op <;> simp only [cutOp] at h <;> try (cases h; done)
  case call cl =>
   obtain ⟨callee, args, ts⟩ := cl
   cases callee with
   | builtin bi => cases bi <;> simp only at h <;> first | rfl | (cases h; done)
   | _ => simp at h
  all_goals rfl
theorem drawOps_loose {P : Program} {lib : Prims} {all : List Oper} (s0 : ASt) (msA : List Nat) {Q : AFr -> ASt -> Prop}
  (hwin : ∀ (o : Oper) (i : Nat), all[i]? = some o -> quietOp P o = true -> calmOp o = false -> countP (fun j => !Nat.testBit (nth0 msA j) i) P all 0 ≤ effs P all i ∧ countP (Nat.testBit (nth0 msA i)) P all 0 = effs P all i)
  (hback : ∀ (o p : Oper) (i j : Nat), all[i]? = some o -> all[j]? = some p -> allocOp P p = true -> j < i -> needsS P o = true -> Nat.testBit (nth0 msA i) j = true)
  (hfwd : ∀ (o p : Oper) (i j : Nat), all[i]? = some o -> all[j]? = some p -> allocOp P p = true -> i ≤ j -> Nat.testBit (nth0 msA i) j = false) :
  ∀ (l pre : List Oper) (ms : List Nat) (id : Nat) (f : AFr) (T U : ASt) (as : List (Nat × Nat × Blk)), all = pre ++ l -> ms = msA.drop pre.length -> ms.length = l.length -> id + allocs P l ≤ s0.next + allocs P all -> StandsS s0 (allocs P all) pre.length id as T U -> (∀ x ∈ as, ∃ p, all[x.1]? = some p ∧ allocOp P p = true) -> wopsS P lib s0.next all l id f U Q ->
  ∃ es f' T' U', (∃ n, ∀ m, n ≤ m -> drawOps P (acall P lib m) all ms l pre.length id f T as = some es) ∧ (stagesOf P l es T).getLastD T = T' ∧ framesOf l es f = f' ∧ Cl.fill (fun _ => true) T' (as ++ madeOf es pre.length) = U' ∧
   (∀ x ∈ madeOf es pre.length, pre.length ≤ x.1 ∧ ∃ p, all[x.1]? = some p ∧ allocOp P p = true) ∧
   (∀ x ∈ stagesOf P l es T, Stay s0.next s0 x) ∧ (∀ sts before, sts = before ++ stagesOf P l es T -> (∀ x ∈ sts, Stay s0.next s0 x) -> before.length = effs P pre pre.length -> checkAll P all msA (as ++ madeOf es pre.length) sts ms l es pre.length f = true) ∧ Keeps s0 U' ∧ Q f' U' := by
 intro l
 induction l with
 | nil =>
  intro pre ms id f T U as _ _ hl _ hst _ hw
  rw [wopsS_nil] at hw
  cases ms with
  | cons m r => simp at hl
  | nil => exact ⟨[], f, T, U, ⟨0, fun _ _ => rfl⟩, rfl, rfl, by simp only [madeOf, List.append_nil]; exact hst.fill _ (fun _ _ => rfl), (fun x hx => by simp [madeOf] at hx), (fun x hx => by simp only [stagesOf, List.mem_singleton] at hx; rw [hx]; exact hst.stT), fun _ _ _ _ _ => rfl, hst.keeps, hw⟩
 | cons o r ih =>
  intro pre ms id f T U as hall hms hl hid hst has hw
  cases ms with
  | nil => simp at hl
  | cons m ms =>
  have hlr : ms.length = r.length := by simpa using hl
  have hall' : all = (pre ++ [o]) ++ r := by rw [hall, List.append_assoc]; rfl
  have hlen' : (pre ++ [o]).length = pre.length + 1 := by simp
  have hms' : ms = msA.drop (pre ++ [o]).length := by
   rw [hlen', ← List.drop_drop, ← hms]; rfl
  have hmA : nth0 msA pre.length = m := by
   have nth0_drop : ∀ (L : List Nat) (k : Nat) (x : Nat) (t : List Nat), L.drop k = x :: t -> nth0 L k = x := by
    intro L
    induction L with
    | nil => intro k x t h; simp at h
    | cons y L ihL =>
     intro k x t h
     cases k with
     | zero => simp at h; exact h.1
     | succ k => simp only [List.drop_succ_cons] at h; simp only [nth0]; exact ihL k x t h
   exact nth0_drop msA pre.length m ms hms.symm
  have hget : all[pre.length]? = some o := by rw [hall]; simp
  have heffs : effs P all pre.length = effs P pre pre.length := by rw [hall, effs_append]
  have hsn := effs_snoc P o pre
  have hput : ∀ (v : Value) (id' : Nat) (U' : ASt), (wput f o.dst v fun f' => wopsS P lib s0.next all r id' f' U' Q) -> ∃ f1, putD f o.dst v = some f1 ∧ wopsS P lib s0.next all r id' f1 U' Q := by
   intro v id' U' h
   unfold wput at h
   split at h
   ·exact ⟨_, ‹_›, h⟩
   ·exact h.elim
  have hallocs : allocs P (o :: r) = if allocOp P o then allocs P r + 1 else allocs P r := rfl
  have hfillU : needsS P o = true -> Cl.fill (Nat.testBit m) T as = U := fun hn => hst.fill _ (fun x hx => by
   obtain ⟨p, hp, hpa⟩ := has x hx
   rw [← hmA]
   exact hback o p pre.length x.1 hget hp hpa (hst.before x hx) hn)
  rw [wopsS_cons] at hw
  cases hwa : wantedA all o f with
  | false =>
   rw [hwa] at hw
   obtain ⟨f1, hp, hw⟩ := hput _ _ _ hw
   have hst' : StandsS s0 (allocs P all) (pre ++ [o]).length (if allocOp P o then id + 1 else id) as T U := by
    refine ⟨⟨hst.fill, hst.here, fun x hx => by have := hst.before x hx; omega, by have := hst.lo; split <;> omega, fun k hk hk2 => hst.free k (by split at hk <;> omega) hk2, hst.next, hst.keeps⟩, hst.stT, hst.stU, hst.ids⟩
   obtain ⟨es, f', T', U', ⟨n, h1⟩, h3, h4, hf, hmd, hsts, h5, hk, h6⟩ := ih (pre ++ [o]) ms _ f1 T U as hall' hms' hlr (by rw [hallocs] at hid; split <;> split at hid <;> first | omega | contradiction) hst' has hw
   rw [hlen'] at h1 h5 hf hmd
   refine ⟨.skip :: es, f', T', U', ⟨n, fun q hq => ?_⟩, ?_, by simp only [framesOf, Ev.val, hp, h4], by simp only [madeOf]; exact hf, (fun x hx => by simp only [madeOf] at hx; obtain ⟨a, b⟩ := hmd x hx; exact ⟨by omega, b⟩), (fun x hx => by
    simp only [stagesOf] at hx
    split at hx
    ·rcases List.mem_cons.mp hx with rfl | hx
     ·exact hst.stT
     ·exact hsts x hx
    ·exact hsts x hx), fun sts before hs hss hb => ?_, hk, h6⟩
   ·simp only [drawOps, drawOp, hwa, Ev.val, hp]
    rw [h1 q hq]
   ·simp only [stagesOf]
    split
    ·obtain ⟨rr, hr⟩ := stages_head P r es T
     rw [hr] at h3 ⊢
     rw [List.getLastD_cons] at h3 ⊢
     rw [List.getLastD_cons]; exact h3
    ·exact h3
   ·simp only [checkAll, Ev.val, hp, Bool.true_and, madeOf]
    simp only [stagesOf] at hs
    split at hs
    ·rename_i he
     refine h5 sts (before ++ [T]) (by rw [hs, List.append_assoc]; rfl) hss ?_
     rw [← hlen', hsn, if_pos he, List.length_append, hb]; rfl
    ·rename_i he
     refine h5 sts before hs hss ?_
     rw [← hlen', hsn, if_neg he, hb]
  | true =>
   rw [hwa] at hw
   cases hq : quietOp P o with
   | true =>
    simp only [swant, hq, cond_true] at hw
    have hne := quiet_not_effect hq
    have hna := quiet_not_alloc hq
    rw [hallocs, if_neg (by simp [hna])] at hid
    unfold slook at hw
    split at hw
    case h_2 => exact hw.elim
    rename_i v s1 hop
    obtain ⟨hlo, hv, hw⟩ := hw
    obtain ⟨f1, hp, hw⟩ := hput _ _ _ hw
    have hst' : StandsS s0 (allocs P all) (pre ++ [o]).length id as T U := ⟨⟨hst.fill, hst.here, fun x hx => by have := hst.before x hx; omega, hst.lo, hst.free, hst.next, hst.keeps⟩, hst.stT, hst.stU, hst.ids⟩
    obtain ⟨es, f', T', U', ⟨n, h1⟩, h3, h4, hf, hmd, hsts, h5, hk, h6⟩ := ih (pre ++ [o]) ms id f1 T U as hall' hms' hlr hid hst' has hw
    rw [hlen'] at h1 h5 hf hmd
    have hsee : ∃ s2, aop P o f (Cl.fill (Nat.testBit m) T as) = some (.val v s2) := by
     cases hpu : calmOp o with
     | true => exact ⟨_, calm_any hpu hlo hst.stU (hst.stT.trans (fill_stay _ _ _ _ hst.ids)) hop⟩
     | false => exact ⟨s1, by rw [hfillU (by simp [needsS, hpu, hna])]; exact hop⟩
    obtain ⟨s2, hsee⟩ := hsee
    refine ⟨.quiet v :: es, f', T', U', ⟨n, fun q hqm => ?_⟩, ?_, by simp only [framesOf, Ev.val, hp, h4], by simp only [madeOf]; exact hf, (fun x hx => by simp only [madeOf] at hx; obtain ⟨a, b⟩ := hmd x hx; exact ⟨by omega, b⟩), (fun x hx => hsts x (by simpa [stagesOf, hne] using hx)), fun sts before hs hss hb => ?_, hk, h6⟩
    ·simp only [drawOps, drawOp, hwa, hq, hsee, Ev.val, hp, hna]
     rw [if_neg (by simp), h1 q hqm]
    ·simp only [stagesOf, hne]; simpa using h3
    ·have hs' : sts = before ++ stagesOf P r es T := by simpa [stagesOf, hne] using hs
     simp only [checkAll, Ev.val, hp, madeOf]
     rw [h5 sts before hs' hss (by rw [← hlen', hsn, if_neg (by simp [hne]), hb]), Bool.and_true]
     have hfw : ∀ X : ASt, Cl.fill (Nat.testBit m) X (as ++ madeOf es (pre.length + 1)) = Cl.fill (Nat.testBit m) X as := by
      intro X
      rw [fill_append, fill_none _ (madeOf es (pre.length + 1))]
      intro x hx
      obtain ⟨a, p, hp', hpa⟩ := hmd x hx
      rw [← hmA]
      exact hfwd o p pre.length x.1 hget hp' hpa (by omega)
     have hsame : ∀ (L : List ASt), (∀ x ∈ L, Stay s0.next s0 x) -> (calmOp o = false -> ∀ x ∈ L, x = T) -> sameAt P m (as ++ madeOf es (pre.length + 1)) o f v L = true := by
      intro L
      induction L with
      | nil => intro _ _; rfl
      | cons x L ihL =>
       intro hx2 hx
       simp only [sameAt, hfw]
       have : ∃ s3, aop P o f (Cl.fill (Nat.testBit m) x as) = some (.val v s3) := by
        cases hpu : calmOp o with
        | true => exact ⟨_, calm_any hpu hlo hst.stU ((hx2 x (List.mem_cons_self ..)).trans (fill_stay _ _ _ _ hst.ids)) hop⟩
        | false => rw [hx hpu x (List.mem_cons_self ..)]; exact ⟨s2, hsee⟩
       obtain ⟨s3, hs3⟩ := this
       rw [hs3]
       simp only [hv, Bool.true_and]
       exact ihL (fun y hy => hx2 y (List.mem_cons_of_mem _ hy)) (fun hpu y hy => hx hpu y (List.mem_cons_of_mem _ hy))
     refine hsame _ (fun x hx => hss x (List.mem_of_mem_take (List.mem_of_mem_drop hx))) (fun hpu x hx => ?_)
     obtain ⟨t1, t2⟩ := hwin o pre.length hget hq hpu
     rw [hmA] at t2
     rw [t2] at hx
     obtain ⟨rr, hr⟩ := stages_head P r es T
     rw [heffs, ← hb, List.drop_take, hs', hr, List.drop_left] at hx
     have hk1 : countP (fun j => !Nat.testBit (nth0 msA j) pre.length) P all 0 + 1 - before.length ≤ 1 := by omega
     generalize countP (fun j => !Nat.testBit (nth0 msA j) pre.length) P all 0 + 1 - before.length = k at hx hk1
     cases k with
     | zero => simp at hx
     | succ k =>
      obtain rfl : k = 0 := by omega
      simpa using hx
   | false =>
    cases ha : allocOp P o with
    | true =>
     simp only [swant, hq, ha, cond_true, cond_false] at hw
     rw [hallocs, if_pos ha] at hid
     have hne : effectOp P o = false := by simp [effectOp, ha]
     unfold smake at hw
     split at hw
     case h_2 => exact hw.elim
     rename_i v b hop
     obtain ⟨f1, hp, hw⟩ := hput _ _ _ hw
     have hop' : ∃ s1, aop P o f ⟨.nil, id⟩ = some (.val v s1) ∧ s1.blk? id = some b := by
      unfold valloc at hop
      split at hop
      ·rename_i v1 s1 h1
       split at hop
       ·rename_i b1 hb1
        injection hop with hop; injection hop with e1 e2; subst e1; subst e2
        exact ⟨s1, h1, hb1⟩
       ·cases hop
      ·cases hop
     obtain ⟨s1, ho1, ho2⟩ := hop'
     have hfree := hst.free id (Nat.le_refl _) (by omega)
     have hlt : id < U.next := by have := hst.next; omega
     have hst' : StandsS s0 (allocs P all) (pre ++ [o]).length (id + 1) (as ++ [(pre.length, id, b)]) T (U.put id (.blk b)) := by
      refine ⟨⟨fun p hp => ?_, fun x hx => ?_, fun x hx => ?_, by have := hst.lo; omega, fun k hk hk2 => ?_, by have := hst.next; simpa [ASt.put] using this, ?_⟩, hst.stT, hst.stU.trans ⟨Nat.le_refl _, fun i hi => ASt.get_put_ne _ _ _ _ (by have := hst.lo; omega)⟩, fun x hx => ?_⟩
      ·rw [fill_append, hst.fill p (fun x hx => hp x (List.mem_append_left _ hx))]
       have hpi : p pre.length = true := hp (pre.length, id, b) (List.mem_append_right _ (List.mem_cons_self ..))
       simp only [Cl.fill, hpi, hfree]
      ·rcases List.mem_append.mp hx with hx | hx
       ·have hh := hst.here x hx
        have : x.2.1 ≠ id := fun e => hh (by rw [e]; exact hfree)
        rw [ASt.get_put_ne _ _ _ _ (Ne.symm this)]; exact hh
       ·rw [List.mem_singleton] at hx; subst hx
        simp only [ASt.put, Tr.get_set_self _ _ _ _ (deep (by omega))]; simp
      ·rcases List.mem_append.mp hx with hx | hx
       ·have := hst.before x hx; omega
       ·rw [List.mem_singleton] at hx; subst hx; simp
      ·rw [ASt.get_put_ne _ _ _ _ (by omega)]; exact hst.free k (by omega) hk2
      ·have hk := hst.keeps
       refine ⟨hk.next, fun j hj hn => ?_, fun j hj => ?_, ⟨by omega, fun j ob hj => ?_⟩⟩
       ·have := hst.lo
        rw [ASt.get_put_ne _ _ _ _ (by omega)]; exact hk.gone j hj hn
       ·by_cases hji : id = j
        ·subst hji; simp only [ASt.put, Tr.get_set_self _ _ _ _ (deep (by omega))]; simp
        ·rw [ASt.get_put_ne _ _ _ _ hji]; exact hk.here j hj
       ·by_cases hji : id = j
        ·subst hji; simpa [ASt.put] using hlt
        ·rw [ASt.get_put_ne _ _ _ _ hji] at hj; have := hk.wf.bound j ob hj; simpa [ASt.put] using this
      ·rcases List.mem_append.mp hx with hx | hx
       ·exact hst.ids x hx
       ·rw [List.mem_singleton] at hx; subst hx; exact hst.lo
     have has' : ∀ x ∈ as ++ [(pre.length, id, b)], ∃ p, all[x.1]? = some p ∧ allocOp P p = true := by
      intro x hx
      rcases List.mem_append.mp hx with hx | hx
      ·exact has x hx
      ·rw [List.mem_singleton] at hx; subst hx; exact ⟨o, hget, ha⟩
     obtain ⟨es, f', T', U', ⟨n, h1⟩, h3, h4, hf, hmd, hsts, h5, hk, h6⟩ := ih (pre ++ [o]) ms (id + 1) f1 T _ _ hall' hms' hlr (by omega) hst' has' hw
     rw [hlen'] at h1 h5 hf hmd
     have hap : ∀ L, as ++ (pre.length, id, b) :: L = (as ++ [(pre.length, id, b)]) ++ L := fun L => by rw [List.append_assoc]; rfl
     refine ⟨.made v id b :: es, f', T', U', ⟨n, fun q hqm => ?_⟩, ?_, by simp only [framesOf, Ev.val, hp, h4], by simp only [madeOf]; rw [hap]; exact hf, (fun x hx => ?_), (fun x hx => hsts x (by simpa [stagesOf, hne] using hx)), fun sts before hs hss hb => ?_, hk, h6⟩
     ·simp only [drawOps, drawOp, hwa, hq, ha, ho1, ho2, Ev.val, hp, if_true]
      rw [h1 q hqm]
     ·simp only [stagesOf, hne]; simpa using h3
     ·simp only [madeOf] at hx
      rcases List.mem_cons.mp hx with rfl | hx
      ·exact ⟨Nat.le_refl _, o, hget, ha⟩
      ·obtain ⟨a, c⟩ := hmd x hx; exact ⟨by omega, c⟩
     ·simp only [checkAll, Ev.val, hp, Bool.true_and, madeOf]
      rw [hap]
      have hs' : sts = before ++ stagesOf P r es T := by simpa [stagesOf, hne] using hs
      exact h5 sts before hs' hss (by rw [← hlen', hsn, if_neg (by simp [hne]), hb])
    | false =>
     simp only [swant, hq, ha, cond_false] at hw
     rw [hallocs, if_neg (by simp [ha])] at hid
     have he : effectOp P o = true := by simp [effectOp, hq, ha]
     have hpu : calmOp o = false := by
      cases hpu : calmOp o with
      | false => rfl
      | true => rw [cut_quiet hpu] at hq; cases hq
     have hU := hfillU (by simp [needsS, hpu, ha])
     have fin : ∀ (v : Value) (U1 : ASt) (n0 : Nat), (∀ q, n0 ≤ q -> drawOp P (acall P lib q) all m id as o f T = some (.eff v U1)) -> Keeps U U1 -> Stay s0.next U U1 -> (wput f o.dst v fun f' => wopsS P lib s0.next all r id f' U1 Q) ->
       ∃ es f' T' U', (∃ n, ∀ m', n ≤ m' -> drawOps P (acall P lib m') all (m :: ms) (o :: r) pre.length id f T as = some es) ∧ (stagesOf P (o :: r) es T).getLastD T = T' ∧ framesOf (o :: r) es f = f' ∧ Cl.fill (fun _ => true) T' (as ++ madeOf es pre.length) = U' ∧
        (∀ x ∈ madeOf es pre.length, pre.length ≤ x.1 ∧ ∃ p, all[x.1]? = some p ∧ allocOp P p = true) ∧
        (∀ x ∈ stagesOf P (o :: r) es T, Stay s0.next s0 x) ∧ (∀ sts before, sts = before ++ stagesOf P (o :: r) es T -> (∀ x ∈ sts, Stay s0.next s0 x) -> before.length = effs P pre pre.length -> checkAll P all msA (as ++ madeOf es pre.length) sts (m :: ms) (o :: r) es pre.length f = true) ∧ Keeps s0 U' ∧ Q f' U' := by
      intro v U1 n0 hd hkU hkS hw
      obtain ⟨f1, hp, hw⟩ := hput _ _ _ hw
      have hhere : ∀ x ∈ as, U1.heap.get x.2.1 ≠ none := fun x hx => hkU.here _ (hst.here x hx)
      have hst' : StandsS s0 (allocs P all) (pre ++ [o]).length id as U1 U1 := by
       refine ⟨⟨fun p hp => fill_here p as U1 hhere, hhere, fun x hx => by have := hst.before x hx; omega, hst.lo, fun k hk hk2 => hkU.gone k (by have := hst.next; omega) (hst.free k hk hk2), by have := hst.next; have := hkU.next; omega, hst.keeps.trans hkU⟩, hst.stU.trans hkS, hst.stU.trans hkS, hst.ids⟩
      obtain ⟨es, f', T', U', ⟨n, h1⟩, h3, h4, hf, hmd, hsts, h5, hk, h6⟩ := ih (pre ++ [o]) ms id f1 U1 U1 as hall' hms' hlr hid hst' has hw
      rw [hlen'] at h1 h5 hf hmd
      refine ⟨.eff v U1 :: es, f', T', U', ⟨n + n0, fun q hqm => ?_⟩, ?_, by simp only [framesOf, Ev.val, hp, h4], by simp only [madeOf]; exact hf, (fun x hx => by simp only [madeOf] at hx; obtain ⟨a, b⟩ := hmd x hx; exact ⟨by omega, b⟩), (fun x hx => by
       simp only [stagesOf] at hx
       rcases List.mem_cons.mp hx with rfl | hx
       ·exact hst.stT
       ·exact hsts x hx), fun sts before hs hss hb => ?_, hk, h6⟩
      ·simp only [drawOps, hd q (by omega), Ev.val, hp, ha]
       rw [if_neg (by simp), h1 q (by omega)]
      ·simp only [stagesOf]
       obtain ⟨rr, hr⟩ := stages_head P r es U1
       rw [hr] at h3 ⊢
       rw [List.getLastD_cons] at h3 ⊢
       rw [List.getLastD_cons]; exact h3
      ·simp only [checkAll, Ev.val, hp, Bool.true_and, madeOf]
       simp only [stagesOf] at hs
       refine h5 sts (before ++ [T]) (by rw [hs, List.append_assoc]; rfl) hss ?_
       rw [← hlen', hsn, if_pos he, List.length_append, hb]; rfl
     unfold sstep at hw
     split at hw
     case h_3 => exact hw.elim
     ·rename_i v U1 hop
      obtain ⟨hkS, hw⟩ := hw
      exact fin v U1 0 (fun q _ => by simp only [drawOp, hwa, hq, ha, hU, hop]) (aop_keeps hst.keeps.wf hop) hkS hw
     ·rename_i g args hop
      obtain ⟨v, U1, ⟨nc, hc⟩, hkU, hkS, hw⟩ := hw hst.keeps.wf
      exact fin v U1 nc (fun q hqm => by simp only [drawOp, hwa, hq, ha, hU, hop, hc q hqm]) hkU hkS hw
theorem Drawn.loose {P : Program} {lib : Prims} {ops : List Oper} (ht : looseB P ops = true) {f : AFr} {s : ASt} {Q : AFr -> ASt -> Prop} (h : wopsS P lib s.next ops ops s.next f (spare s (allocs P ops)) Q) : Drawn P lib ops f s Q := by
 intro hwf
 simp only [looseB, List.all_eq_true, Bool.and_eq_true, Bool.or_eq_true, Bool.not_eq_true'] at ht
 have hmem : ∀ (o : Oper) (i : Nat), ops[i]? = some o -> (o, i) ∈ ops.zipIdx := fun o i hi => by rw [List.mem_zipIdx_iff_getElem?]; simpa using hi
 have hms : (masks ops []).length = ops.length := by
  obtain ⟨r, h1, h2⟩ := masks_pre ops []
  rw [h1]; simpa using h2
 have hfree : ∀ k, s.next ≤ k -> s.heap.get k = none := fun k hk1 => by
  cases hg : s.heap.get k with
  | none => rfl
  | some o => have := hwf.bound k o hg; omega
 have hk0 : Keeps s (spare s (allocs P ops)) := ⟨by simp [spare], fun _ _ h => h, fun _ h => h, ⟨by omega, fun j o hj => by have := hwf.bound j o hj; simp only [spare]; omega⟩⟩
 obtain ⟨es, f', T', U', ⟨n, h1⟩, h3, h4, hf, hmd, hsts, h5, hk, h6⟩ := drawOps_loose (P := P) (lib := lib) (all := ops) s (masks ops []) (Q := Q) (fun o i hi hq hp => by
   have := (ht (o, i) (hmem o i hi)).2
   have hcb := countP_before P ops 0 i
   rw [Nat.zero_add] at hcb
   rcases this with h | h
   ·simp [hq, hp] at h
   ·obtain ⟨t1, t2⟩ := h
    rw [hcb] at t1 t2
    exact ⟨by simpa [Nat.ble_eq] using t1, by simpa [Nat.beq_eq] using t2⟩)
  (fun o p i j hi hj ha hji hn => by
   have := (ht (o, i) (hmem o i hi)).1 (p, j) (hmem p j hj)
   have hb : Nat.blt j i = true := by simpa [Nat.blt_eq] using hji
   simp only [ha, hb, cond_true, hn] at this
   simpa using this)
  (fun o p i j hi hj ha hij => by
   have := (ht (o, i) (hmem o i hi)).1 (p, j) (hmem p j hj)
   have hb : Nat.blt j i = false := by rw [← Bool.not_eq_true, Nat.blt_eq]; omega
   simp only [ha, hb, cond_false] at this
   simpa using this)
  ops [] (masks ops []) s.next f (spare s (allocs P ops)) (spare s (allocs P ops)) [] rfl rfl hms (by omega)
  ⟨⟨fun _ _ => rfl, fun _ hx => (by cases hx), fun _ hx => (by cases hx), Nat.le_refl _, fun k hk1 _ => hfree k hk1, by simp [spare], hk0⟩, Stay.spare _ _, Stay.spare _ _, fun _ hx => (by cases hx)⟩ (fun _ hx => (by cases hx)) h
 simp only [List.nil_append, List.length_nil] at h1 h5 hf hmd
 refine ⟨f', U', ⟨n, fun m hm => ?_⟩, hk, h6⟩
 unfold drawRun
 have h1' := h1 m hm
 have hb : Nat.ble 0 16000000 = true := rfl
 simp only [hb]
 show (match drawOps P (acall P lib m) ops (masks ops []) ops 0 s.next f (spare s (allocs P ops)) [] with
  | some es => match checkAll P ops (masks ops []) (madeOf es 0) (stagesOf P ops es (spare s (allocs P ops))) (masks ops []) ops es 0 f with
   | true => some (framesOf ops es f, Cl.fill (fun _ => true) ((stagesOf P ops es (spare s (allocs P ops))).getLastD s) (madeOf es 0))
   | false => none
  | none => none) = _
 rw [h1']
 have h5' := h5 (stagesOf P ops es (spare s (allocs P ops))) [] rfl hsts rfl
 simp only [h5', h4]
 obtain ⟨rr, hr⟩ := stages_head P ops es (spare s (allocs P ops))
 rw [hr] at h3 ⊢
 rw [List.getLastD_cons] at h3 ⊢
 rw [h3, hf]
theorem Drawn.looseK {P : Program} {lib : Prims} {ops : List Oper} {f : AFr} {s : ASt} {Q : AFr -> ASt -> Prop} (k : Nat) (ht : looseB P ops = true) (hk : Nat.beq (allocs P ops) k = true) (h : wopsS P lib s.next ops ops s.next f (spare s k) Q) : wdraw P lib ops f s Q false := by
 have : allocs P ops = k := by simpa [Nat.beq_eq] using hk
 exact Drawn.loose ht (by rw [this]; exact h)
section
variable {P : Program} {lib : Prims} {b : Nat} {all r : List Oper} {id : Nat} {f : AFr} {T : ASt} {d : Option Tmp} {Q : AFr -> ASt -> Prop}
theorem smake_newSlice {cs : List Value} {n z base : Nat} (h : cs.length = n * z) (hid : id < T.next) (hb : base ≤ id)
  (K : ∀ v T', Own T' z v n cs -> idOf v = some id -> Stay base T T' -> T'.next = T.next -> (∀ j, j ≠ id -> T'.heap.get j = T.heap.get j) -> scall P lib b all r (id + 1) f d Q v T') : smake P lib b all r id f T d Q (valloc id (pOf (newSlice ⟨.nil, id⟩ cs n z))) := by
 have e : valloc id (pOf (newSlice ⟨.nil, id⟩ cs n z)) = some (.slice (some ⟨id, 0, none⟩) n (cs.length + 1), ⟨cs, 1, true, z⟩) := by
  have : newSlice ⟨.nil, id⟩ cs n z = some (.slice (some ⟨id, 0, none⟩) n (cs.length + 1), (⟨.nil, id⟩ : ASt).new (.blk ⟨cs, 1, true, z⟩)) := by simp [newSlice, ASt.room]
  rw [this, pOf_some]
  have hb : ((⟨.nil, id⟩ : ASt).new (.blk ⟨cs, 1, true, z⟩)).blk? id = some ⟨cs, 1, true, z⟩ := blk_new ⟨.nil, id⟩ _
  simp only [valloc, hb]
 rw [e, smake_eq]
 have hoth : ∀ j, j ≠ id -> (T.put id (.blk ⟨cs, 1, true, z⟩)).heap.get j = T.heap.get j := fun j hj => ASt.get_put_ne _ _ _ _ (Ne.symm hj)
 refine K _ _ (.of id n 1 cs (by simpa [ASt.put] using hid) (ASt.blk?_put_self _ _ _ (by omega)) (by omega) h) rfl ⟨Nat.le_refl _, fun j hj => hoth j (by omega)⟩ rfl hoth
theorem sstep_append {st xt e : TypeId} {xd : TypeDesc} {z by8 : Nat} {zv : Value} (hu : P.underlying st = some (.slice e)) (hux : P.underlying xt = some xd) (hxd : (∃ e2, xd = .slice e2) ∨ xd = .string) (hsz : sizeB P e = some z) (hby : bytesB P e = some by8) (hzv : zeroB P e = some zv) (hzl : Nat.beq zv.cells.toList.length z = true)
  {x y : Value} {n m : Nat} {l new : List Value} (hx : Own T z x n l) (hy : srcCells T z y = some (m, new)) (hnew : new.length = m * z) (hz0 : 0 < z) (hok : new.all okCell = true) (hb1 : (n + m) * by8 ≤ 140737488355328) (hb2 : n + m ≤ 140737488355328) (hF : Fresh b x) (hB : b ≤ T.next)
  (K : ∀ x' T', Own T' z x' (n + m) (l ++ new) -> Fresh b x' -> Stay b T T' -> Turns x T T' -> (idOf x' = idOf x ∨ ∃ i, idOf x' = some i ∧ T.next ≤ i) -> scall P lib b all r id f d Q x' T') : sstep P lib b all r id f d T Q (pOf (appendA P T st xt x y)) := by
 obtain ⟨x', s', h1, h2, h3, h4⟩ := Own.append hu hux hxd hsz hby hzv hzl hx hy hnew hz0 hok hb1 hb2
 rw [h1, pOf_some]
 have hk := h3.keeps hF hB
 refine ⟨hk, K _ _ h2 (fun i hi => ?_) hk h3 h4⟩
 rcases h4 with h4 | ⟨j, hj, hl⟩
 ·exact hF i (by rw [← h4]; exact hi)
 ·rw [hj] at hi; injection hi with hi; omega
end
end Go.Cl