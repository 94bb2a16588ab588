/-
 The clean machine, part 21: frames, operations and numbers as equations; slices that are seen, slices that are owned.
-/
import Derived.Test.YthlbahnfimigcaaWp
namespace Go.Cl
theorem get_put (f : AFr) (t u : Nat) (v : Value) : (f.put t v).get u = if t = u then v else f.get u := by
 by_cases h : t = u
 ·subst h; simp only [AFr.get, AFr.put, Tr.get_set_self _ _ _ _ (deep (by omega)), if_pos]
 ·simp only [AFr.get, AFr.put, Tr.get_set_ne _ _ _ _ _ h, if_neg h]
theorem n_put (f : AFr) (t : Nat) (v : Value) : (f.put t v).n = f.n := rfl
theorem enter_n (fn : Func) (args : List Value) : (enterA fn args).n = args.length + (fn.ntmps - args.length) := rfl
theorem enter_get (fn : Func) (args : List Value) (t : Nat) : (enterA fn args).get t = args.getD t undef := by
 simp only [enterA, AFr.get, setAll_get args .nil 0 t (by omega), Nat.zero_le, true_and, Nat.zero_add, Nat.sub_zero]
 by_cases h : t < args.length
 ·simp only [if_pos h]
 ·simp only [if_neg h, Tr.get]
  simp [List.getD, List.getElem?_eq_none (Nat.le_of_not_lt h)]
theorem evalA_tmp (f : AFr) (t : Tmp) : evalA f (.tmp t) = if t < f.n then some (f.get t) else none := by
 unfold evalA
 by_cases h : t < f.n
 ·have hb : Nat.blt t f.n = true := by simpa [Nat.blt_eq] using h
  simp only [hb, if_true, if_pos h]
 ·have hb : Nat.blt t f.n = false := by rw [← Bool.not_eq_true, Nat.blt_eq]; exact h
  simp [hb, if_neg h]
theorem evalA_bool (f : AFr) (b : Bool) : evalA f (.const (.bool b)) = some (.bool b) := rfl
theorem evalA_int (f : AFr) (k : IntKind) (n : Int) : evalA f (.const (.int k n)) = some (.int k n) := rfl
theorem evalA_string (f : AFr) (b : ByteArray) : evalA f (.const (.string b)) = some (.string b) := rfl
theorem evalA_snil (f : AFr) : evalA f (.const (.slice none 0 0)) = some (.slice none 0 0) := rfl
theorem evalA_pnil (f : AFr) : evalA f (.const (.pointer none)) = some (.pointer none) := rfl
theorem evalA_mnil (f : AFr) : evalA f (.const (.map none)) = some (.map none) := rfl
theorem evalA_func (f : AFr) (g : FuncId) : evalA f (.func g) = some (.func (.func g) #[] #[]) := rfl
theorem Runs.enter {P : Program} {lib : Prims} {g : FuncId} {args : List Value} {s : ASt} {Q : Value -> ASt -> Prop} {fn : Func} {c : Code} (N : Nat) (hg : P.funcs[g]? = some fn) (hb : fn.body = some c) (hl : lib.at g = none) (hN : args.length + (fn.ntmps - args.length) = N) (hn : Nat.ble N 16000000 = true)
  (h : ∀ f : AFr, f.n = N -> (∀ t, f.get t = args.getD t undef) -> wcode P lib c f s (wfn P fn.results.toList Q)) : Runs P lib g args s Q :=
 Runs.of_code hg hb hl (by rw [hN]; exact hn) (wcode_ok _ _ _ _ (h _ (by rw [enter_n, hN]) (enter_get fn args)))
section
variable (P : Program) (f : AFr) (s : ASt) (d : Option Tmp) (ty : TypeId) (ps : String) (af : Array Edge) (gd : Option (Nat × Bool))
theorem aop_move (x : Operand) : aop P ⟨d, .move x, ty, ps, af, gd⟩ f s = vOf s (evalA f x) := rfl
theorem aop_assign (x : Operand) : aop P ⟨d, .assign x, ty, ps, af, gd⟩ f s = vOf s (evalA f x) := rfl
theorem aop_pick (c a b : Operand) : aop P ⟨d, .pick c a b, ty, ps, af, gd⟩ f s = match evalA f c, evalA f a, evalA f b with
  | some (.bool t), some u, some v => some (.val (if t then u else v) s)
  | _, _, _ => none := rfl
theorem aop_alloc (e : TypeId) : aop P ⟨d, .alloc e, ty, ps, af, gd⟩ f s = match zeroB P e with
  | some z => if plainV z then pOf (newPtr s z.cells.toList (boxEsz P e)) else none
  | none => none := rfl
theorem aop_box (e : TypeId) (x : Operand) : aop P ⟨d, .box e x, ty, ps, af, gd⟩ f s = match evalA f x with
  | some v => pOf (newPtr s v.cells.toList (boxEsz P e))
  | none => none := rfl
theorem aop_build (t : TypeId) (q : Array (Nat × Operand)) : aop P ⟨d, .build t q, ty, ps, af, gd⟩ f s = match partsA f q.toList with
  | some l => vOf s (buildA P t l)
  | none => none := rfl
theorem aop_buildSlice (t : TypeId) (n : Nat) (q : Array (Nat × Operand)) : aop P ⟨d, .buildSlice t n q, ty, ps, af, gd⟩ f s = match partsA f q.toList with
  | some l => pOf (buildSliceA P s t n l)
  | none => none := rfl
theorem aop_load (t : TypeId) (x : Operand) : aop P ⟨d, .load t x, ty, ps, af, gd⟩ f s = match evalA f x with
  | some a => vOf s (loadA P s t a)
  | none => none := rfl
theorem aop_store (t : TypeId) (x y : Operand) : aop P ⟨d, .store t x y, ty, ps, af, gd⟩ f s = match evalA f x, evalA f y with
  | some a, some v => uOf (storeA P s t a v)
  | _, _ => none := rfl
theorem aop_nilCheck (x : Operand) : aop P ⟨d, .nilCheck x, ty, ps, af, gd⟩ f s = match evalA f x with
  | some (.pointer (some a)) => some (.val (.pointer (some a)) s)
  | some (.func (.func g) as bs) => some (.val (.func (.func g) as bs) s)
  | _ => none := rfl
theorem aop_binOp (op : BinOp) (t t2 : TypeId) (x y : Operand) : aop P ⟨d, .binOp op t x y t2, ty, ps, af, gd⟩ f s = match evalA f x, evalA f y with
  | some u, some v => vOf s (binA P op t u v)
  | _, _ => none := rfl
theorem aop_unOp (op : UnOp) (t : TypeId) (x : Operand) : aop P ⟨d, .unOp op t x, ty, ps, af, gd⟩ f s = match evalA f x with
  | some u => vOf s (unA op u)
  | none => none := rfl
theorem aop_convert (a b : TypeId) (x : Operand) : aop P ⟨d, .convert a b x, ty, ps, af, gd⟩ f s = match evalA f x with
  | some u => pOf (convA P s a b u)
  | none => none := rfl
theorem aop_makeMap (t : TypeId) : aop P ⟨d, .makeMap t none, ty, ps, af, gd⟩ f s = some (.val (.map (some s.next)) (s.new (.map []))) := rfl
theorem aop_makeSlice (t : TypeId) (x y : Operand) : aop P ⟨d, .makeSlice t x y, ty, ps, af, gd⟩ f s = match evalA f x, evalA f y with
  | some u, some v => pOf (makeSliceA P s t u v)
  | _, _ => none := rfl
theorem aop_slice (t : TypeId) (x : Operand) (lo hi mx : Option Operand) : aop P ⟨d, .slice t x lo hi mx, ty, ps, af, gd⟩ f s = match evalA f x, optA f lo, optA f hi, optA f mx with
  | some u, some l, some h, some m => vOf s (sliceA P s t u l h m)
  | _, _, _, _ => none := rfl
theorem aop_fieldAddr (t : TypeId) (x : Operand) (i : Nat) : aop P ⟨d, .fieldAddr t x i, ty, ps, af, gd⟩ f s = match evalA f x with
  | some u => vOf s (fieldAddrA P t u i)
  | none => none := rfl
theorem aop_field (t : TypeId) (x : Operand) (i : Nat) : aop P ⟨d, .field t x i, ty, ps, af, gd⟩ f s = match evalA f x with
  | some u => vOf s (fieldA P t u i)
  | none => none := rfl
theorem aop_indexAddr (t : TypeId) (x y : Operand) : aop P ⟨d, .indexAddr t x y, ty, ps, af, gd⟩ f s = match evalA f x, evalA f y with
  | some u, some v => vOf s (indexAddrA P t u v)
  | _, _ => none := rfl
theorem aop_index (t : TypeId) (x y : Operand) : aop P ⟨d, .index t x y, ty, ps, af, gd⟩ f s = match evalA f x, evalA f y with
  | some u, some v => vOf s (indexA P t u v)
  | _, _ => none := rfl
theorem aop_lookup (t : TypeId) (x y : Operand) (ok : Bool) : aop P ⟨d, .lookup t x y ok, ty, ps, af, gd⟩ f s = match evalA f x, evalA f y with
  | some u, some v => vOf s (lookupA P s t u v ok)
  | _, _ => none := rfl
theorem aop_mapUpdate (t : TypeId) (x y z : Operand) : aop P ⟨d, .mapUpdate t x y z, ty, ps, af, gd⟩ f s = match evalA f x, evalA f y, evalA f z with
  | some m, some k, some v => uOf (mapUpdateA P s t m k v)
  | _, _, _ => none := rfl
theorem aop_extract (x : Operand) (i : Nat) : aop P ⟨d, .extract x i, ty, ps, af, gd⟩ f s = match evalA f x with
  | some u => vOf s (extractA u i)
  | none => none := rfl
theorem aop_call_value (x : Operand) (args : Array Operand) (ts : Array TypeId) : aop P ⟨d, .call ⟨.value x, args, ts⟩, ty, ps, af, gd⟩ f s = match evalAll f args.toList with
  | some l => match evalA f x with
   | some (.func (.func g) as bs) => some (.call g (as.toList ++ l ++ bs.toList))
   | _ => none
  | none => none := rfl
theorem aop_call_builtin (b : Builtin) (args : Array Operand) (ts : Array TypeId) : aop P ⟨d, .call ⟨.builtin b, args, ts⟩, ty, ps, af, gd⟩ f s = match evalAll f args.toList with
  | some l => builtinA P s b ts.toList l
  | none => none := rfl
theorem wanted_none (all : List Oper) (op : Op) : wantedA all ⟨d, op, ty, ps, af, none⟩ f = true := rfl
theorem wanted_some (all : List Oper) (op : Op) (j : Nat) (w : Bool) : wantedA all ⟨d, op, ty, ps, af, some (j, w)⟩ f = match yieldA all f j with
  | some b => b == w
  | none => false := rfl
def yieldOf (f : AFr) : List Oper -> Option Bool
 | o :: _ =>
  match o.dst with
  | some d => if d < f.n then (match f.get d with
    | .bool b => some b
    | _ => none) else none
  | none => none
 | [] => none
theorem yieldA_eq (all : List Oper) (j : Nat) : yieldA all f j = yieldOf f (all.drop j) := by
 unfold yieldA yieldOf
 cases all.drop j with
 | nil => rfl
 | cons o r =>
  simp only
  cases o.dst with
  | none => rfl
  | some d =>
   simp only
   by_cases hd : d < f.n
   ·have hb : Nat.blt d f.n = true := by simpa [Nat.blt_eq] using hd
    simp only [hb, if_true, if_pos hd]
    cases f.get d <;> rfl
   ·have hb : Nat.blt d f.n = false := by rw [← Bool.not_eq_true, Nat.blt_eq]; exact hd
    simp [hb, if_neg hd]
theorem yieldOf_cons (t : Tmp) (op : Op) (r : List Oper) : yieldOf f (⟨some t, op, ty, ps, af, gd⟩ :: r) = if t < f.n then (match f.get t with
    | .bool b => some b
    | _ => none) else none := rfl
end
theorem cells_agg (cs : Array Value) : (Value.agg cs).cells = cs := rfl
theorem vOf_some (s : ASt) (v : Value) : vOf s (some v) = some (.val v s) := rfl
theorem pOf_some (v : Value) (s : ASt) : pOf (some (v, s)) = some (.val v s) := rfl
theorem uOf_some (s : ASt) : uOf (some s) = some (.val undef s) := rfl
theorem builtin_len (P : Program) (s : ASt) (t : TypeId) (x : Value) : builtinA P s .len [t] [x] = vOf s (lenA P s t x) := rfl
theorem builtin_append (P : Program) (s : ASt) (t u : TypeId) (x y : Value) : builtinA P s .append [t, u] [x, y] = pOf (appendA P s t u x y) := rfl
theorem builtin_copy (P : Program) (s : ASt) (t u : TypeId) (x y : Value) : builtinA P s .copy [t, u] [x, y] = pOf (copyA P s t x y) := rfl
theorem builtin_min (P : Program) (s : ASt) (t u : TypeId) (k : IntKind) (x y : Int) : builtinA P s .min [t, u] [.int k x, .int k y] = some (.val (.int k (if y < x then y else x)) s) := rfl
theorem builtin_max (P : Program) (s : ASt) (t u : TypeId) (k : IntKind) (x y : Int) : builtinA P s .max [t, u] [.int k x, .int k y] = some (.val (.int k (if y > x then y else x)) s) := rfl
section
variable (P : Program) (d : Option Tmp) (ty : TypeId) (ps : String) (af : Array Edge) (gd : Option (Nat × Bool))
theorem allQuiet_nil : allQuiet P [] = true := rfl
theorem allQuiet_cons (o : Oper) (r : List Oper) : allQuiet P (o :: r) = (quietOp P o && allQuiet P r) := rfl
theorem quiet_move (x : Operand) : quietOp P ⟨d, .move x, ty, ps, af, gd⟩ = true := rfl
theorem quiet_assign (x : Operand) : quietOp P ⟨d, .assign x, ty, ps, af, gd⟩ = true := rfl
theorem quiet_pick (a b c : Operand) : quietOp P ⟨d, .pick a b c, ty, ps, af, gd⟩ = true := rfl
theorem quiet_load (t : TypeId) (x : Operand) : quietOp P ⟨d, .load t x, ty, ps, af, gd⟩ = true := rfl
theorem quiet_nilCheck (x : Operand) : quietOp P ⟨d, .nilCheck x, ty, ps, af, gd⟩ = true := rfl
theorem quiet_binOp (op : BinOp) (t t2 : TypeId) (x y : Operand) : quietOp P ⟨d, .binOp op t x y t2, ty, ps, af, gd⟩ = true := rfl
theorem quiet_unOp (op : UnOp) (t : TypeId) (x : Operand) : quietOp P ⟨d, .unOp op t x, ty, ps, af, gd⟩ = true := rfl
theorem quiet_indexAddr (t : TypeId) (x y : Operand) : quietOp P ⟨d, .indexAddr t x y, ty, ps, af, gd⟩ = true := rfl
theorem quiet_index (t : TypeId) (x y : Operand) : quietOp P ⟨d, .index t x y, ty, ps, af, gd⟩ = true := rfl
theorem quiet_fieldAddr (t : TypeId) (x : Operand) (i : Nat) : quietOp P ⟨d, .fieldAddr t x i, ty, ps, af, gd⟩ = true := rfl
theorem quiet_field (t : TypeId) (x : Operand) (i : Nat) : quietOp P ⟨d, .field t x i, ty, ps, af, gd⟩ = true := rfl
theorem quiet_slice (t : TypeId) (x : Operand) (l h m : Option Operand) : quietOp P ⟨d, .slice t x l h m, ty, ps, af, gd⟩ = true := rfl
theorem quiet_extract (x : Operand) (i : Nat) : quietOp P ⟨d, .extract x i, ty, ps, af, gd⟩ = true := rfl
theorem quiet_len (args : Array Operand) (ts : Array TypeId) : quietOp P ⟨d, .call ⟨.builtin .len, args, ts⟩, ty, ps, af, gd⟩ = true := rfl
theorem quiet_call (x : Operand) (args : Array Operand) (ts : Array TypeId) : quietOp P ⟨d, .call ⟨.value x, args, ts⟩, ty, ps, af, gd⟩ = false := rfl
theorem quiet_buildSlice (t : TypeId) (n : Nat) (q : Array (Nat × Operand)) : quietOp P ⟨d, .buildSlice t n q, ty, ps, af, gd⟩ = false := rfl
theorem quiet_build (t : TypeId) (q : Array (Nat × Operand)) : quietOp P ⟨d, .build t q, ty, ps, af, gd⟩ = true := rfl
theorem quiet_store (t : TypeId) (x y : Operand) : quietOp P ⟨d, .store t x y, ty, ps, af, gd⟩ = false := rfl
theorem quiet_box (t : TypeId) (x : Operand) : quietOp P ⟨d, .box t x, ty, ps, af, gd⟩ = false := rfl
theorem quiet_alloc (t : TypeId) : quietOp P ⟨d, .alloc t, ty, ps, af, gd⟩ = false := rfl
theorem quiet_makeSlice (t : TypeId) (x y : Operand) : quietOp P ⟨d, .makeSlice t x y, ty, ps, af, gd⟩ = false := rfl
theorem quiet_append (args : Array Operand) (ts : Array TypeId) : quietOp P ⟨d, .call ⟨.builtin .append, args, ts⟩, ty, ps, af, gd⟩ = false := rfl
theorem quiet_copy (args : Array Operand) (ts : Array TypeId) : quietOp P ⟨d, .call ⟨.builtin .copy, args, ts⟩, ty, ps, af, gd⟩ = false := rfl
theorem quiet_min (args : Array Operand) (ts : Array TypeId) : quietOp P ⟨d, .call ⟨.builtin .min, args, ts⟩, ty, ps, af, gd⟩ = true := rfl
theorem quiet_max (args : Array Operand) (ts : Array TypeId) : quietOp P ⟨d, .call ⟨.builtin .max, args, ts⟩, ty, ps, af, gd⟩ = true := rfl
theorem alloc_buildSlice (t : TypeId) (n : Nat) (q : Array (Nat × Operand)) : allocOp P ⟨d, .buildSlice t n q, ty, ps, af, gd⟩ = true := rfl
theorem alloc_store (t : TypeId) (x y : Operand) : allocOp P ⟨d, .store t x y, ty, ps, af, gd⟩ = false := rfl
theorem alloc_box (t : TypeId) (x : Operand) : allocOp P ⟨d, .box t x, ty, ps, af, gd⟩ = true := rfl
theorem alloc_alloc (t : TypeId) : allocOp P ⟨d, .alloc t, ty, ps, af, gd⟩ = true := rfl
theorem alloc_makeSlice (t : TypeId) (x y : Operand) : allocOp P ⟨d, .makeSlice t x y, ty, ps, af, gd⟩ = true := rfl
theorem alloc_call (c : Go.Call) : allocOp P ⟨d, .call c, ty, ps, af, gd⟩ = false := rfl
theorem alloc_convert (a b : TypeId) (x : Operand) : allocOp P ⟨d, .convert a b x, ty, ps, af, gd⟩ = textConv P a b := rfl
theorem alloc_move (x : Operand) : allocOp P ⟨d, .move x, ty, ps, af, gd⟩ = false := rfl
theorem alloc_assign (x : Operand) : allocOp P ⟨d, .assign x, ty, ps, af, gd⟩ = false := rfl
theorem alloc_pick (a b c : Operand) : allocOp P ⟨d, .pick a b c, ty, ps, af, gd⟩ = false := rfl
theorem alloc_load (t : TypeId) (x : Operand) : allocOp P ⟨d, .load t x, ty, ps, af, gd⟩ = false := rfl
theorem alloc_nilCheck (x : Operand) : allocOp P ⟨d, .nilCheck x, ty, ps, af, gd⟩ = false := rfl
theorem alloc_binOp (op : BinOp) (t t2 : TypeId) (x y : Operand) : allocOp P ⟨d, .binOp op t x y t2, ty, ps, af, gd⟩ = false := rfl
theorem alloc_unOp (op : UnOp) (t : TypeId) (x : Operand) : allocOp P ⟨d, .unOp op t x, ty, ps, af, gd⟩ = false := rfl
theorem alloc_indexAddr (t : TypeId) (x y : Operand) : allocOp P ⟨d, .indexAddr t x y, ty, ps, af, gd⟩ = false := rfl
theorem alloc_index (t : TypeId) (x y : Operand) : allocOp P ⟨d, .index t x y, ty, ps, af, gd⟩ = false := rfl
theorem alloc_fieldAddr (t : TypeId) (x : Operand) (i : Nat) : allocOp P ⟨d, .fieldAddr t x i, ty, ps, af, gd⟩ = false := rfl
theorem alloc_field (t : TypeId) (x : Operand) (i : Nat) : allocOp P ⟨d, .field t x i, ty, ps, af, gd⟩ = false := rfl
theorem alloc_slice (t : TypeId) (x : Operand) (l h m : Option Operand) : allocOp P ⟨d, .slice t x l h m, ty, ps, af, gd⟩ = false := rfl
theorem alloc_extract (x : Operand) (i : Nat) : allocOp P ⟨d, .extract x i, ty, ps, af, gd⟩ = false := rfl
theorem quiet_convert (a b : TypeId) (x : Operand) : quietOp P ⟨d, .convert a b x, ty, ps, af, gd⟩ = match P.underlying b with
  | some (.slice _) => false
  | _ => true := rfl
end
theorem resultsA_nil (P : Program) (f : AFr) (s : ASt) : resultsA P f s [] = some [] := rfl
theorem resultsA_tmp (P : Program) (f : AFr) (s : ASt) (t : Tmp) (r : List ResultVar) : resultsA P f s (.tmp t :: r) = if t < f.n then (match resultsA P f s r with
  | some l => some (f.get t :: l)
  | none => none) else none := by
 by_cases h : t < f.n
 ·have hb : Nat.blt t f.n = true := by simpa [Nat.blt_eq] using h
  rw [if_pos h]
  conv => lhs; rw [resultsA]
  simp only [hb, if_true]
  rfl
 ·have hb : Nat.blt t f.n = false := by rw [← Bool.not_eq_true, Nat.blt_eq]; exact h
  rw [if_neg h]
  conv => lhs; rw [resultsA]
  simp [hb]
section
variable (P : Program) (t : TypeId) (k : IntKind) (a b : Int)
theorem bin_add : binA P .add t (.int k a) (.int k b) = some (.int k (k.wrap (a + b))) := by simp [binA, intOp]
theorem bin_sub : binA P .sub t (.int k a) (.int k b) = some (.int k (k.wrap (a - b))) := by simp [binA, intOp]
theorem bin_mul : binA P .mul t (.int k a) (.int k b) = some (.int k (k.wrap (a * b))) := by simp [binA, intOp]
theorem bin_eql : binA P .eql t (.int k a) (.int k b) = some (.bool (decide (a = b))) := by simp [binA, intOp]; rfl
theorem bin_neq : binA P .neq t (.int k a) (.int k b) = some (.bool (decide (a ≠ b))) := by
 simp only [binA, intOp, if_true]
 by_cases h : a = b <;> simp [h]
theorem bin_lss : binA P .lss t (.int k a) (.int k b) = some (.bool (decide (a < b))) := by simp [binA, intOp]
theorem bin_leq : binA P .leq t (.int k a) (.int k b) = some (.bool (decide (a ≤ b))) := by simp [binA, intOp]
theorem bin_gtr : binA P .gtr t (.int k a) (.int k b) = some (.bool (decide (b < a))) := by simp [binA, intOp]
theorem bin_geq : binA P .geq t (.int k a) (.int k b) = some (.bool (decide (b ≤ a))) := by simp [binA, intOp]
theorem un_not (x : Bool) : unA .not (.bool x) = some (.bool (!x)) := rfl
theorem un_neg : unA .neg (.int k a) = some (.int k (k.wrap (0 - a))) := rfl
end
theorem wrapI {x : Int} (h : -9223372036854775808 ≤ x ∧ x ≤ 9223372036854775807) : IntKind.i64.wrap x = x := by
 have e1 : IntKind.i64.bits = 64 := rfl
 have e2 : IntKind.i64.signed = true := rfl
 simp only [IntKind.wrap, e1, e2, Bool.true_and]
 split <;> simp_all <;> omega
theorem valEq_bool (b : Bool) : valEq (.bool b) (.bool b) = true := by simp [valEq, valEq1]
theorem valEq_int (k : IntKind) (n : Int) : valEq (.int k n) (.int k n) = true := by simp [valEq, valEq1]
theorem valEq_string (b : ByteArray) : valEq (.string b) (.string b) = true := by simp [valEq, valEq1]
theorem valEq_pointer (a : Option Addr) : valEq (.pointer a) (.pointer a) = true := by simp [valEq, valEq1]
theorem valEq_slice (a : Option Addr) (n c : Nat) : valEq (.slice a n c) (.slice a n c) = true := by
 simp only [valEq, valEq1, if_true, Bool.true_and, Bool.and_eq_true]; exact ⟨Nat.beq_refl n, Nat.beq_refl c⟩
structure Stay (base : Nat) (s s' : ASt) : Prop where
 next : s.next ≤ s'.next
 get : ∀ i, i < base -> s'.heap.get i = s.heap.get i
theorem Stay.refl (base : Nat) (s : ASt) : Stay base s s := ⟨Nat.le_refl _, fun _ _ => rfl⟩
theorem Stay.trans {base : Nat} {s s' s'' : ASt} (h : Stay base s s') (k : Stay base s' s'') : Stay base s s'' := ⟨Nat.le_trans h.next k.next, fun i hi => (k.get i hi).trans (h.get i hi)⟩
theorem Stay.weaken {base b2 : Nat} {s s' : ASt} (h : Stay base s s') (hb : b2 ≤ base) : Stay b2 s s' := ⟨h.next, fun i hi => h.get i (by omega)⟩
theorem Stay.blk {base : Nat} {s s' : ASt} (h : Stay base s s') {i : Nat} (hi : i < base) : s'.blk? i = s.blk? i := by simp only [ASt.blk?, h.get i hi]
theorem Stay.new (s : ASt) (o : AO) : Stay s.next s (s.new o) := by
 refine ⟨by simp [ASt.new], fun i hi => ?_⟩
 simp only [ASt.new, Tr.get_set_ne _ _ _ _ _ (Nat.ne_of_gt hi)]
theorem blk_new (s : ASt) (b : Blk) : (s.new (.blk b)).blk? s.next = some b := by simp only [ASt.new, ASt.blk?, Tr.get_set_self _ _ _ _ (deep (by omega))]
theorem next_new (s : ASt) (o : AO) : (s.new o).next = s.next + 1 := rfl
inductive Sees (s : ASt) (z : Nat) : Value -> Nat -> List Value -> Prop
 | nil : Sees s z (.slice none 0 0) 0 []
 | bare (i off : Nat) : Sees s z (.slice (some ⟨i, off, none⟩) 0 0) 0 []
 | of (i off n c : Nat) (b : Blk) (l : List Value) (hi : i < s.next) (hb : s.blk? i = some b) (hz : b.esz = z) (hl : b.low ≤ c) (hc : c ≤ b.cells.length + 1)
   (hlen : l.length = n * z) (hoff : off + n * z < c) (ht : (b.cells.drop off).take (n * z) = l) : Sees s z (.slice (some ⟨i, off, none⟩) n c) n l
theorem Sees.length {s : ASt} {z : Nat} {v : Value} {n : Nat} {l : List Value} (h : Sees s z v n l) : l.length = n * z := by
 cases h with
 | nil => simp
 | bare => simp
 | of i off n c b l hi hb hz hl hc hlen hoff ht => exact hlen
theorem Sees.keeps {s s' : ASt} {z : Nat} {v : Value} {n : Nat} {l : List Value} (h : Sees s z v n l) (k : Stay s.next s s') : Sees s' z v n l := by
 cases h with
 | nil => exact .nil
 | bare => exact .bare _ _
 | of i off n c b l hi hb hz hl hc hlen hoff ht => exact .of i off n c b l (Nat.lt_of_lt_of_le hi k.next) ((k.blk hi).trans hb) hz hl hc hlen hoff ht
theorem Sees.lenA {P : Program} {t e : TypeId} (hu : P.underlying t = some (.slice e)) {s s2 : ASt} {z : Nat} {v : Value} {n : Nat} {l : List Value} (h : Sees s z v n l) : Cl.lenA P s2 t v = some (.int .i64 n) := by
 unfold Cl.lenA; rw [hu]
 cases h <;> rfl
def elemPtr (z : Nat) (v : Value) (k : Nat) : Value :=
 match v with
 | .slice (some ⟨i, off, none⟩) _ c => .pointer (some ⟨i, off + k * z, some c⟩)
 | _ => .pointer none
theorem cellsAt_eq {s : ASt} {i off c n : Nat} {b : Blk} (hb : s.blk? i = some b) (hl : b.low ≤ c) (hc : c ≤ b.cells.length + 1) (ho : off + n < c) : s.cellsAt i off c n = some ((b.cells.drop off).take n) := by
 unfold ASt.cellsAt
 rw [hb]
 have h1 : (Nat.ble b.low c && Nat.ble c (b.cells.length + 1) && Nat.blt (off + n) c) = true := by
  simp only [Bool.and_eq_true, Nat.ble_eq, Nat.blt_eq]; exact ⟨⟨hl, hc⟩, ho⟩
 simp only [h1, if_true]
 rw [dropN_eq, takeN_eq, if_pos (by simp; omega)]
theorem Sees.indexAddr {P : Program} {t e : TypeId} {z : Nat} (hu : P.underlying t = some (.slice e)) (hsz : sizeB P e = some z) {s : ASt} {v : Value} {n : Nat} {l : List Value} (h : Sees s z v n l) {k : IntKind} {x : Int} (h0 : 0 ≤ x) (hx : x < n) :
  indexAddrA P t v (.int k x) = some (elemPtr z v x.toNat) := by
 obtain ⟨y, rfl⟩ : ∃ y : Nat, x = y := ⟨x.toNat, by omega⟩
 have hy : y < n := by omega
 unfold indexAddrA; rw [hu]
 cases h with
 | nil => omega
 | bare => omega
 | of i off n c b l hi hb hz hl hc hlen hoff ht =>
  have hb2 : Nat.blt y n = true := by simpa [Nat.blt_eq] using hy
  show (match sizeB P e with | some z => if Nat.blt y n then some (Value.pointer (some ⟨i, off + y * z, some c⟩)) else none | none => none) = _
  rw [hsz]
  simp only [hb2, if_true, elemPtr, Int.toNat_natCast]
theorem Sees.cells {s : ASt} {z : Nat} {v : Value} {n : Nat} {l : List Value} (h : Sees s z v n l) {k : Nat} (hk : k < n) : ∃ i off c, elemPtr z v k = .pointer (some ⟨i, off, some c⟩) ∧ s.cellsAt i off c z = some ((l.drop (k * z)).take z) := by
 cases h with
 | nil => omega
 | bare => omega
 | of i off n c b l hi hb hz hl hc hlen hoff ht =>
  have hkz : k * z + z ≤ n * z := by
   have : (k + 1) * z ≤ n * z := Nat.mul_le_mul_right z hk
   rwa [Nat.succ_mul] at this
  refine ⟨i, off + k * z, c, rfl, ?_⟩
  rw [cellsAt_eq hb hl hc (by omega), ← ht, List.drop_take, List.drop_drop, List.take_take]
  congr 2
  omega
theorem Sees.load1 {P : Program} {e : TypeId} (hag : isAggB P e = some false) {s : ASt} {v : Value} {n : Nat} {l : List Value} (h : Sees s 1 v n l) {k : Nat} (hk : k < n) : loadA P s e (elemPtr 1 v k) = some (l.getD k undef) := by
 obtain ⟨i, off, c, e1, e2⟩ := h.cells hk
 have hl := h.length
 rw [e1]
 unfold loadA
 simp only [hag, e2]
 have : (l.drop (k * 1)).take 1 = [l.getD k undef] := by
  rw [Nat.mul_one, List.take_one, List.head?_drop, List.getElem?_eq_getElem (by omega)]
  simp [List.getD, List.getElem?_eq_getElem (show k < l.length by omega)]
 rw [this]
theorem Sees.loadAgg {P : Program} {e : TypeId} {z : Nat} (hag : isAggB P e = some true) (hsz : sizeB P e = some z) {s : ASt} {v : Value} {n : Nat} {l : List Value} (h : Sees s z v n l) {k : Nat} (hk : k < n) : loadA P s e (elemPtr z v k) = some (.agg ((l.drop (k * z)).take z).toArray) := by
 obtain ⟨i, off, c, e1, e2⟩ := h.cells hk
 rw [e1]
 unfold loadA
 simp only [hag, hsz, e2]
def cutS (z : Nat) (v : Value) (lo hi : Nat) : Value :=
 match v with
 | .slice (some ⟨i, off, none⟩) _ c => .slice (some ⟨i, off + lo * z, none⟩) (hi - lo) c
 | _ => .slice none 0 0
theorem Sees.cut {s : ASt} {z : Nat} {v : Value} {n : Nat} {l : List Value} (h : Sees s z v n l) {lo hi : Nat} (h1 : lo ≤ hi) (h2 : hi ≤ n) : Sees s z (cutS z v lo hi) (hi - lo) ((l.drop (lo * z)).take ((hi - lo) * z)) := by
 cases h with
 | nil => obtain rfl : hi = 0 := by omega
          obtain rfl : lo = 0 := by omega
          simpa [cutS] using (Sees.nil (s := s) (z := z))
 | bare i off => obtain rfl : hi = 0 := by omega
                 obtain rfl : lo = 0 := by omega
                 simpa [cutS] using (Sees.bare (s := s) (z := z) i (off + 0 * z))
 | of i off n c b l hi' hb hz hl hc hlen hoff ht =>
  have e : lo * z + (hi - lo) * z ≤ n * z := by
   rw [← Nat.add_mul]; exact Nat.mul_le_mul_right z (by omega)
  refine .of i (off + lo * z) (hi - lo) c b _ hi' hb hz hl hc ?_ (by omega) ?_
  ·rw [List.length_take, List.length_drop, hlen]; omega
  ·rw [← ht, List.drop_take, List.drop_drop, List.take_take]
   congr 1
   omega
theorem Sees.slice {P : Program} {t e : TypeId} {z : Nat} (hu : P.underlying t = some (.slice e)) (hsz : sizeB P e = some z) {s : ASt} {v : Value} {n : Nat} {l : List Value} (h : Sees s z v n l) {lo hi : Option Value} {a b : Nat}
  (ha : natOf lo 0 = some a) (hb : natOf hi n = some b) (h1 : a ≤ b) (h2 : b ≤ n) : sliceA P s t v lo hi none = some (cutS z v a b) := by
 have hab : (Nat.ble a b && Nat.ble b n) = true := by simp only [Bool.and_eq_true, Nat.ble_eq]; exact ⟨h1, h2⟩
 cases h with
 | nil => unfold sliceA; rw [hu]; simp only [ha, hb, hsz, hab, if_true, cutS]
 | bare i off =>
  unfold sliceA; rw [hu]; simp only [ha, hb, hsz, hab, if_true, eszIs, cutS]
 | of i off n c bk l hi' hbk hz hl hc hlen hoff ht =>
  have he : eszIs s i c z = true := by
   unfold eszIs
   split
   ·rfl
   ·rw [hbk]; simp [hz]
  unfold sliceA; rw [hu]; simp only [ha, hb, hsz, hab, if_true, he, cutS]
theorem natOf_none (d : Nat) : natOf none d = some d := rfl
theorem natOf_int {k : IntKind} {x : Int} {d : Nat} (h : 0 ≤ x) : natOf (some (.int k x)) d = some x.toNat := by
 obtain ⟨y, rfl⟩ : ∃ y : Nat, x = y := ⟨x.toNat, by omega⟩
 rfl
theorem Sees.src {s : ASt} {z : Nat} {v : Value} {n : Nat} {l : List Value} (h : Sees s z v n l) : srcCells s z v = some (n, l) := by
 cases h with
 | nil => rfl
 | bare => rfl
 | of i off n c b l hi' hb hz hl hc hlen hoff ht =>
  cases n with
  | zero =>
   have : l = [] := List.eq_nil_of_length_eq_zero (by simpa using hlen)
   subst this; rfl
  | succ n =>
   simp only [srcCells]
   rw [cellsAt_eq hb hl hc hoff, ht]
inductive Own (s : ASt) (z : Nat) : Value -> Nat -> List Value -> Prop
 | nil : Own s z (.slice none 0 0) 0 []
 | of (i n low : Nat) (l : List Value) (hi : i < s.next) (hb : s.blk? i = some ⟨l, low, true, z⟩) (hl : low ≤ l.length + 1) (hlen : l.length = n * z) : Own s z (.slice (some ⟨i, 0, none⟩) n (l.length + 1)) n l
def idOf : Value -> Option Nat
 | .slice (some a) _ _ => some a.block
 | .pointer (some a) => some a.block
 | _ => none
def Fresh (base : Nat) (v : Value) : Prop := ∀ i, idOf v = some i -> base ≤ i
theorem Fresh.nil (base : Nat) : Fresh base (.slice none 0 0) := fun i h => by cases h
theorem Own.sees {s : ASt} {z : Nat} {v : Value} {n : Nat} {l : List Value} (h : Own s z v n l) : Sees s z v n l := by
 cases h with
 | nil => exact .nil
 | of i n low l hi hb hl hlen => exact .of i 0 n _ _ l hi hb rfl hl (Nat.le_refl _) hlen (by omega) (by simp [← hlen])
theorem Own.length {s : ASt} {z : Nat} {v : Value} {n : Nat} {l : List Value} (h : Own s z v n l) : l.length = n * z := h.sees.length
theorem Own.keeps {s s' : ASt} {z : Nat} {v : Value} {n : Nat} {l : List Value} (h : Own s z v n l) (k : Stay s.next s s') : Own s' z v n l := by
 cases h with
 | nil => exact .nil
 | of i n low l hi hb hl hlen => exact .of i n low l (Nat.lt_of_lt_of_le hi k.next) ((k.blk hi).trans hb) hl hlen
structure Turns (v : Value) (s s' : ASt) : Prop where
 next : s.next ≤ s'.next
 get : ∀ i, i < s.next -> idOf v ≠ some i -> s'.heap.get i = s.heap.get i
theorem Turns.keeps {base : Nat} {v : Value} {s s' : ASt} (h : Turns v s s') (hf : Fresh base v) (hb : base ≤ s.next) : Stay base s s' :=
 ⟨h.next, fun i hi => h.get i (by omega) (fun e => by have := hf i e; omega)⟩
theorem Own.turns {s s' : ASt} {z : Nat} {v u : Value} {n : Nat} {l : List Value} (h : Own s z v n l) (k : Turns u s s') (hne : ∀ i, idOf v = some i -> idOf u ≠ some i) : Own s' z v n l := by
 cases h with
 | nil => exact .nil
 | of i n low l hi hb hl hlen =>
  refine .of i n low l (Nat.lt_of_lt_of_le hi k.next) ?_ hl hlen
  simp only [ASt.blk?, k.get i hi (hne i rfl)]; exact hb
theorem Own.new {s : ASt} {cs : List Value} {n z : Nat} (h : cs.length = n * z) : newSlice s cs n z = some (.slice (some ⟨s.next, 0, none⟩) n (cs.length + 1), s.new (.blk ⟨cs, 1, true, z⟩)) ∧ Own (s.new (.blk ⟨cs, 1, true, z⟩)) z (.slice (some ⟨s.next, 0, none⟩) n (cs.length + 1)) n cs := by
 refine ⟨by simp [newSlice, ASt.room], .of s.next n 1 cs (by rw [next_new]; omega) (blk_new _ _) (by omega) h⟩
theorem Own.append {P : Program} {st xt e : TypeId} {xd : TypeDesc} {z by8 : Nat} {zv : Value} (hu : P.underlying st = some (.slice e)) (hux : P.underlying xt = some xd) (hxd : (∃ e2, xd = .slice e2) ∨ xd = .string) (hsz : sizeB P e = some z) (hby : bytesB P e = some by8) (hzv : zeroB P e = some zv) (hzl : Nat.beq zv.cells.toList.length z = true)
  {s : ASt} {x y : Value} {n m : Nat} {l new : List Value} (hx : Own s z x n l) (hy : srcCells s z y = some (m, new)) (hnew : new.length = m * z) (hz0 : 0 < z) (hok : new.all okCell = true) (hb1 : (n + m) * by8 ≤ 140737488355328) (hb2 : n + m ≤ 140737488355328) :
  ∃ x' s', appendA P s st xt x y = some (x', s') ∧ Own s' z x' (n + m) (l ++ new) ∧ Turns x s s' ∧ (idOf x' = idOf x ∨ ∃ i, idOf x' = some i ∧ s.next ≤ i) := by
 have hy : srcA s z by8 zv xd y = some (m, new) := by rcases hxd with ⟨e2, rfl⟩ | rfl <;> exact hy
 have hcond : (Nat.ble ((n + m) * by8) 140737488355328 && Nat.ble (n + m) 140737488355328 && Nat.blt 0 z && new.all okCell && Nat.beq zv.cells.toList.length z) = true := by
  simp only [Bool.and_eq_true, Nat.ble_eq, Nat.blt_eq]; exact ⟨⟨⟨⟨hb1, hb2⟩, hz0⟩, hok⟩, hzl⟩
 cases m with
 | zero =>
  have hn : new = [] := List.eq_nil_of_length_eq_zero (by simpa using hnew)
  subst hn
  refine ⟨x, s, ?_, by simpa using hx, ⟨Nat.le_refl _, fun _ _ _ => rfl⟩, .inl rfl⟩
  unfold appendA
  rcases hxd with ⟨e2, rfl⟩ | rfl <;>
  simp only [hu, hux, hsz, hby, hzv, hy]
  all_goals (cases hx <;> simp only [hcond, if_true])
 | succ m =>
  cases hx with
  | nil =>
   obtain ⟨h1, h2⟩ := Own.new (s := s) hnew
   refine ⟨_, _, ?_, by simpa using h2, ⟨by rw [next_new]; omega, fun i hi _ => (Stay.new s _).get i hi⟩, .inr ⟨s.next, rfl, Nat.le_refl _⟩⟩
   unfold appendA
   rcases hxd with ⟨e2, rfl⟩ | rfl <;>
   simp only [hu, hux, hsz, hby, hzv, hy, hcond, if_true, h1]
   all_goals simp
  | of i n low l hi hb hl hlen =>
   have hc1 : (true && Nat.ble low (l.length + 1) && Nat.beq z z) = true := by simp [hl]
   have hc2 : (Nat.beq (l.length + 1) (l.length + 1) && Nat.beq 0 0 && Nat.beq (n * z) l.length) = true := by simp [hlen]
   refine ⟨.slice (some ⟨i, 0, none⟩) (n + (m + 1)) ((l ++ new).length + 1), s.put i (.blk ⟨l ++ new, low, true, z⟩), ?_, ?_, ⟨by simp [ASt.put], fun j _ hj => ?_⟩, .inl rfl⟩
   ·unfold appendA
    rcases hxd with ⟨e2, rfl⟩ | rfl <;>
    simp only [hu, hux, hsz, hby, hzv, hy, hcond, if_true, hb, hc1, hc2]
   ·refine .of i _ low _ (by simpa [ASt.put] using hi) (by rw [ASt.blk?_put_self _ _ _ (by omega)]) (by rw [List.length_append]; omega) (by rw [List.length_append, hlen, hnew, Nat.add_mul n (m + 1) z])
   ·rw [ASt.get_put_ne]
    intro e; subst e; exact hj rfl
theorem ofBytes_length (l : List UInt8) : (ofBytes l).length = l.length := by simp [ofBytes]
theorem ofBytes_getD {l : List UInt8} {i : Nat} (h : i < l.length) : (ofBytes l).getD i undef = .int .u8 ((l.getD i 0).toNat : Int) := by
 simp [ofBytes, List.getD, List.getElem?_eq_getElem h]
theorem ofBytes_append (a b : List UInt8) : ofBytes (a ++ b) = ofBytes a ++ ofBytes b := by simp [ofBytes]
theorem ofBytes_ok (l : List UInt8) : (ofBytes l).all okCell = true := by simp [ofBytes, okCell]
theorem valEq_elemPtr (z : Nat) (v : Value) (k : Nat) : valEq (elemPtr z v k) (elemPtr z v k) = true := by
 unfold elemPtr; split <;> exact valEq_pointer _
theorem valEq_cutS (z : Nat) (v : Value) (a b : Nat) : valEq (cutS z v a b) (cutS z v a b) = true := by
 unfold cutS; split <;> exact valEq_slice _ _ _
theorem Sees.self {s : ASt} {z : Nat} {v : Value} {n : Nat} {l : List Value} (h : Sees s z v n l) : valEq v v = true := by
 cases h <;> exact valEq_slice _ _ _
theorem Own.self {s : ASt} {z : Nat} {v : Value} {n : Nat} {l : List Value} (h : Own s z v n l) : valEq v v = true := h.sees.self
theorem Sees.sliceLow {P : Program} {t e : TypeId} {z : Nat} (hu : P.underlying t = some (.slice e)) (hsz : sizeB P e = some z) {s : ASt} {v : Value} {n : Nat} {l : List Value} (h : Sees s z v n l) {k : IntKind} {x : Int}
  (h0 : 0 ≤ x) (h2 : x ≤ n) : sliceA P s t v (some (.int k x)) none none = some (cutS z v x.toNat n) :=
 h.slice hu hsz (natOf_int h0) rfl (by omega) (by omega)
theorem Sees.sliceHigh {P : Program} {t e : TypeId} {z : Nat} (hu : P.underlying t = some (.slice e)) (hsz : sizeB P e = some z) {s : ASt} {v : Value} {n : Nat} {l : List Value} (h : Sees s z v n l) {k : IntKind} {y : Int}
  (h1 : 0 ≤ y) (h2 : y ≤ n) : sliceA P s t v none (some (.int k y)) none = some (cutS z v 0 y.toNat) :=
 h.slice hu hsz rfl (natOf_int (by omega)) (by omega) (by omega)
theorem Sees.cell1 {s : ASt} {z : Nat} {v : Value} {n : Nat} {l : List Value} (h : Sees s z v n l) : v.cells.toList = [v] := by cases h <;> rfl
theorem Sees.okCell {s : ASt} {z : Nat} {v : Value} {n : Nat} {l : List Value} (h : Sees s z v n l) : Cl.okCell v = true := by cases h <;> rfl
theorem Sees.turns {s s' : ASt} {z : Nat} {v u : Value} {n : Nat} {l : List Value} (h : Sees s z v n l) (k : Turns u s s') (hne : ∀ i, i < s.next -> idOf v = some i -> idOf u ≠ some i) : Sees s' z v n l := by
 cases h with
 | nil => exact .nil
 | bare => exact .bare _ _
 | of i off n c b l hi hb hz hl hc hlen hoff ht =>
  refine .of i off n c b l (Nat.lt_of_lt_of_le hi k.next) ?_ hz hl hc hlen hoff ht
  simp only [ASt.blk?, k.get i hi (hne i hi rfl)]; exact hb
structure Grown (x : Value) (s : ASt) (v : Value) (s' : ASt) : Prop where
 turns : Turns x s s'
 id : idOf v = idOf x ∨ ∃ i, idOf v = some i ∧ s.next ≤ i
theorem Grown.refl (x : Value) (s : ASt) : Grown x s x s := ⟨⟨Nat.le_refl _, fun _ _ _ => rfl⟩, .inl rfl⟩
theorem Grown.trans {x y v : Value} {s s' s'' : ASt} (h : Grown x s y s') (k : Grown y s' v s'') : Grown x s v s'' := by
 refine ⟨⟨Nat.le_trans h.turns.next k.turns.next, fun i hi hne => ?_⟩, ?_⟩
 ·rw [k.turns.get i (Nat.lt_of_lt_of_le hi h.turns.next) ?_, h.turns.get i hi hne]
  rcases h.id with e | ⟨j, e, hj⟩
  ·rw [e]; exact hne
  ·rw [e]; intro q; injection q with q; omega
 ·rcases k.id with e | ⟨j, e, hj⟩
  ·rcases h.id with e2 | ⟨j, e2, hj⟩
   ·left; rw [e, e2]
   ·right; exact ⟨j, by rw [e, e2], hj⟩
  ·right; exact ⟨j, e, Nat.le_trans h.turns.next hj⟩
theorem Grown.stay {base : Nat} {x v : Value} {s s' : ASt} (h : Grown x s v s') (hf : Fresh base x) (hb : base ≤ s.next) : Stay base s s' := h.turns.keeps hf hb
theorem Grown.fresh {base : Nat} {x v : Value} {s s' : ASt} (h : Grown x s v s') (hf : Fresh base x) (hb : base ≤ s.next) : Fresh base v := fun i hi => by
 rcases h.id with e | ⟨j, e, hj⟩
 ·exact hf i (by rw [← e]; exact hi)
 ·rw [e] at hi; injection hi with hi; omega
theorem Grown.after {x v : Value} {s s1 s' : ASt} (k : Stay s.next s s1) (h : Grown x s1 v s') : Grown x s v s' := by
 refine ⟨⟨Nat.le_trans k.next h.turns.next, fun i hi hne => ?_⟩, h.id.imp (fun e => e) (fun ⟨i, a, b⟩ => ⟨i, a, Nat.le_trans k.next b⟩)⟩
 rw [h.turns.get i (Nat.lt_of_lt_of_le hi k.next) hne, k.get i hi]
theorem Own.idlt {s : ASt} {z : Nat} {v : Value} {n : Nat} {l : List Value} (h : Own s z v n l) : ∀ i, idOf v = some i -> i < s.next := by
 cases h with
 | nil => intro i h; cases h
 | of i n low l hi hb hl hlen => intro j h; injection h with h; subst h; exact hi
def isNilS : Value -> Bool
 | .slice none _ _ => true
 | _ => false
theorem Sees.eql_nil {P : Program} {t e : TypeId} (hu : P.underlying t = some (.slice e)) {s : ASt} {z : Nat} {v : Value} {n : Nat} {l : List Value} (h : Sees s z v n l) : binA P .eql t v (.slice none 0 0) = some (.bool (isNilS v)) := by
 cases h <;> simp [binA, nilEq, hu, isNilS]
theorem Sees.isNil {s : ASt} {z : Nat} {v : Value} {n : Nat} {l : List Value} (h : Sees s z v n l) (hn : isNilS v = true) : n = 0 ∧ l = [] ∧ v = .slice none 0 0 := by
 cases h with
 | nil => exact ⟨rfl, rfl, rfl⟩
 | bare => cases hn
 | of => cases hn
def Low (base : Nat) (s : ASt) (z : Nat) (v : Value) (n : Nat) (l : List Value) : Prop := ∀ s', Stay base s s' -> Sees s' z v n l
theorem Low.sees {base : Nat} {s : ASt} {z : Nat} {v : Value} {n : Nat} {l : List Value} (h : Low base s z v n l) : Sees s z v n l := h s (Stay.refl _ _)
theorem Low.stay {base : Nat} {s s' : ASt} {z : Nat} {v : Value} {n : Nat} {l : List Value} (h : Low base s z v n l) (k : Stay base s s') : Low base s' z v n l := fun s'' k' => h s'' (k.trans k')
theorem Sees.low {s : ASt} {z : Nat} {v : Value} {n : Nat} {l : List Value} (h : Sees s z v n l) : Low s.next s z v n l := fun _ k => h.keeps k
theorem Low.up {base b2 : Nat} {s : ASt} {z : Nat} {v : Value} {n : Nat} {l : List Value} (h : Low base s z v n l) (hb : base ≤ b2) : Low b2 s z v n l := fun _ k => h _ (k.weaken hb)
theorem build0 {P : Program} {s : ASt} {t e : TypeId} {zv : Value} {z : Nat} (hu : P.underlying t = some (.slice e)) (hsz : sizeB P e = some z) (hz : zeroB P e = some zv) (hp : plainV zv = true) (hl : Nat.beq zv.cells.toList.length z = true) : buildSliceA P s t 0 [] = newSlice s [] 0 z := by
 unfold buildSliceA; rw [hu]; simp only [hsz, hz, hp, hl]; simp [repeatL, fillA]
end Go.Cl