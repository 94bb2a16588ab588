/-
  The clean machine, part 5: operations that only look.
-/
import Derived.Test.YtbakljlaladpoaaCl4
import Derived.WalkSpells
import Derived.WalkLawsBesides
import Derived.Laws.StructEq
namespace Go.Cl
open Go.RowKit

theorem plain1_ok {S : St} {v : Value} (h : plain1 v = true) : VR S v v := by
  unfold plain1 at h
  split at h
  · exact .bool _
  · exact .int _ _
  · exact .string _
  · exact .ptrNil
  · exact .sliceNil
  · exact .mapNil
  · exact .nilFunc
  · exact .nilIface
  · cases h
theorem plainL_ok {S : St} {l : List Value} (h : l.all plain1 = true) : VRL S l l := by
  induction l with
  | nil => exact VRL.nil
  | cons v l ih =>
    simp only [List.all_cons, Bool.and_eq_true] at h
    exact VRL.cons (plain1_ok h.1) (ih h.2)
theorem plainV_ok {S : St} {v : Value} (h : plainV v = true) : VR S v v := by
  unfold plainV at h
  split at h
  · exact VRL.toList (plainL_ok h)
  · have := plainL_ok (S := S) h; exact .tuple _ _ this.1 this.2
  · exact plain1_ok h

structure FR (S : St) (f : AFr) (a : Act) : Prop where
  n : f.n = a.tmps.size
  small : f.n ≤ 16000000
  get : ∀ t, t < f.n → VR S (f.get t) (a.tmps.getD t undef)

theorem FR.mono {S T : St} (h : Ext S T) {f : AFr} {a : Act} (hf : FR S f a) : FR T f a := ⟨hf.n, hf.small, fun t ht => (hf.get t ht).mono h⟩

theorem evalA_ok {S : St} {f : AFr} {a : Act} (hf : FR S f a) {x : Operand} {v : Value} (h : evalA f x = some v) : VR S v (a.eval x) := by
  cases x with
  | tmp t =>
    simp only [evalA] at h
    split at h
    · rename_i ht; obtain rfl := Option.some.inj h; exact hf.get t (by simpa [Nat.blt_eq] using ht)
    · cases h
  | const c =>
    simp only [evalA] at h
    split at h
    · rename_i ht; obtain rfl := Option.some.inj h; exact plainV_ok ht
    · cases h
  | global g => simp [evalA] at h
  | func g =>
    simp only [evalA] at h
    obtain rfl := Option.some.inj h
    exact .func g #[] #[] #[] #[] rfl rfl (fun i hi => by simp at hi) (fun i hi => by simp at hi)
theorem evalAll_ok {S : St} {f : AFr} {a : Act} (hf : FR S f a) : ∀ {xs : List Operand} {l : List Value}, evalAll f xs = some l → VRL S l (xs.map a.eval) := by
  intro xs
  induction xs with
  | nil => intro l h; simp only [evalAll] at h; obtain rfl := Option.some.inj h; exact VRL.nil
  | cons x xs ih =>
    intro l h
    simp only [evalAll] at h
    split at h
    · rename_i v hv
      split at h
      · rename_i vs hvs; obtain rfl := Option.some.inj h; exact VRL.cons (evalA_ok hf hv) (ih hvs)
      · cases h
    · cases h
theorem optA_ok {S : St} {f : AFr} {a : Act} (hf : FR S f a) {x : Option Operand} {o : Option Value} (h : optA f x = some o) :
    (o = none ∧ x.map a.eval = none) ∨ ∃ v v', o = some v ∧ x.map a.eval = some v' ∧ VR S v v' := by
  cases x with
  | none => simp only [optA] at h; obtain rfl := Option.some.inj h; exact .inl ⟨rfl, rfl⟩
  | some x =>
    simp only [optA] at h
    split at h
    · rename_i v hv; obtain rfl := Option.some.inj h; exact .inr ⟨v, _, rfl, rfl, evalA_ok hf hv⟩
    · cases h

/-! Types. -/
theorem run_isAgg {P : Program} {t : TypeId} {b : Bool} (h : isAggB P t = some b) (w : World) : (isAgg t).run P w = .ok b w := by
  unfold isAggB at h
  split at h
  · rename_i fs hu; obtain rfl := Option.some.inj h; simp [isAgg, run_underlying hu]
  · rename_i n e hu; obtain rfl := Option.some.inj h; simp [isAgg, run_underlying hu]
  · rename_i d h1 h2 hu
    obtain rfl := Option.some.inj h
    simp only [isAgg, Sem.run_bind, run_underlying hu, Result.andThen_ok]
    cases d <;> first | rfl | (exact absurd hu (h1 _)) | (exact absurd hu (h2 _ _))
  · cases h
theorem info_of_size {P : Program} {t : TypeId} {n : Nat} (h : sizeB P t = some n) : ∃ i, P.info? t = some i ∧ i.size = n := by
  unfold sizeB at h
  split at h
  · rename_i i hi; exact ⟨i, hi, Option.some.inj h⟩
  · cases h
theorem run_sizeOf {P : Program} {t : TypeId} {n : Nat} (h : sizeB P t = some n) (w : World) : (sizeOf t).run P w = .ok n w := by
  obtain ⟨i, hi, rfl⟩ := info_of_size h
  simp [sizeOf, typeInfo, hi]
theorem info_of_zero {P : Program} {t : TypeId} {z : Value} (h : zeroB P t = some z) : ∃ i, P.info? t = some i ∧ i.zero = some z := by
  unfold zeroB at h
  split at h
  · rename_i i hi; exact ⟨i, hi, h⟩
  · cases h
theorem run_zeroValue {P : Program} {t : TypeId} {z : Value} (h : zeroB P t = some z) (w : World) : (zeroValue t).run P w = .ok z w := by
  obtain ⟨i, hi, hz⟩ := info_of_zero h
  simp [zeroValue, typeInfo, hi, hz]
theorem info_of_bytes {P : Program} {t : TypeId} {n : Nat} (h : bytesB P t = some n) : ∃ i, P.info? t = some i ∧ i.bytes = n := by
  unfold bytesB at h
  split at h
  · rename_i i hi; exact ⟨i, hi, Option.some.inj h⟩
  · cases h
theorem isU8_ok {P : Program} {t : TypeId} (h : isU8 P t = true) : P.underlying t = some (.int .u8) := by
  unfold isU8 at h
  split at h
  · assumption
  · cases h

/-- A look: the world stays. -/
def Reads (P : Program) (S : St) (m : Sem Value) (v : Value) : Prop := ∃ v', m.run P S.w = .ok v' S.w ∧ VR S v v'

theorem VR.ptr_inv {S : St} {i off c : Nat} {v : Value} (h : VR S (.pointer (some ⟨i, off, some c⟩)) v) : ∃ a, v = .pointer (some a) ∧ RefOk S i off c a := by
  cases h with | ptr _ _ _ a hr => exact ⟨a, rfl, hr⟩
theorem VR.agg_inv {S : St} {cs : Array Value} {v : Value} (h : VR S (.agg cs) v) : ∃ cs', v = .agg cs' ∧ VRL S cs.toList cs'.toList := by
  cases h with | agg _ cs' h1 h2 => exact ⟨cs', rfl, h1, h2⟩
theorem VR.tuple_inv {S : St} {cs : Array Value} {v : Value} (h : VR S (.tuple cs) v) : ∃ cs', v = .tuple cs' ∧ VRL S cs.toList cs'.toList := by
  cases h with | tuple _ cs' h1 h2 => exact ⟨cs', rfl, h1, h2⟩
theorem VR.func_inv {S : St} {g : FuncId} {as bs : Array Value} {v : Value} (h : VR S (.func (.func g) as bs) v) : ∃ as' bs', v = .func (.func g) as' bs' ∧ VRL S as.toList as'.toList ∧ VRL S bs.toList bs'.toList := by
  cases h with | func _ _ _ as' bs' ha hb h1 h2 => exact ⟨as', bs', rfl, ⟨ha, h1⟩, hb, h2⟩
theorem RefOk.addr {S : St} {i off c : Nat} {a : Addr} (h : RefOk S i off c a) {b : Blk} (hb : S.s.blk? i = some b) (hc : Live b c) : a = ⟨(S.e.loc i c).1, (S.e.loc i c).2 + off, none⟩ := by
  obtain ⟨b', hb', _, hl⟩ := h
  rw [hb] at hb'; obtain rfl := Option.some.inj hb'
  exact hl hc.1

theorem loadA_ok {P : Program} {base : Nat} {S : St} (h : SR base S) {t : TypeId} {a a' v : Value} (ha : VR S a a') (hl : loadA P S.s t a = some v) : Reads P S (Instr.loadAt t a') v := by
  unfold loadA at hl
  split at hl
  · rename_i i off c
    obtain ⟨a1, rfl, hr⟩ := ha.ptr_inv
    split at hl
    · rename_i n hag hsz
      split at hl
      · rename_i l hc
        obtain rfl := Option.some.inj hl
        obtain ⟨b, hb, hlive, _, _, hln, hvl, hcell⟩ := h.cells hc
        obtain rfl := hr.addr hb hlive
        refine ⟨.agg (conc S.w (S.e.loc i c).1 ((S.e.loc i c).2 + off) n).toArray, ?_, VRL.agg hvl⟩
        simp [Instr.loadAt, Instr.sureAddr, loadVar, run_isAgg hag, run_sizeOf hsz, run_loadCells P S.w _ _ n hcell]
      · cases hl
    · rename_i hag
      split at hl
      · rename_i v0 r0 hc
        obtain rfl := Option.some.inj hl
        obtain ⟨b, hb, hlive, _, _, hln, hvl, hcell⟩ := h.cells hc
        obtain rfl := hr.addr hb hlive
        obtain ⟨u, hu⟩ := hcell 0 (by omega)
        have h0 := hvl.2 0 (by simp)
        rw [conc_getD _ _ _ _ _ (by omega), hu] at h0
        simp only [Nat.add_zero] at hu
        refine ⟨u, ?_, by simpa using h0⟩
        simp [Instr.loadAt, Instr.sureAddr, loadVar, run_isAgg hag, hu]
      · cases hl
    · cases hl
  · cases hl

/-! Numbers. -/
theorem intOp_ok {P : Program} {S : St} {op : BinOp} {k : IntKind} {x y : Int} {v : Value} {t : TypeId} {ox oy : Operand} (h : intOp op k x y = some v) (hs : op ≠ .shl) (hs' : op ≠ .shr) :
    Reads P S (do eqGuard op t ox oy (.int k x) (.int k y); binOp op t (.int k x) (.int k y)) v := by
  cases op <;> simp only [intOp] at h <;> first
    | exact absurd rfl hs
    | exact absurd rfl hs'
    | (obtain rfl := Option.some.inj h; refine ⟨_, ?_, by first | exact .int _ _ | exact .bool _⟩; simp [go_sem, Op.intArith, Op.intBits]; done)
    | (split at h
       · cases h
       · rename_i hy; obtain rfl := Option.some.inj h; refine ⟨_, ?_, .int _ _⟩; simp [go_sem, Op.intDiv, hy])
theorem shiftOp_ok {P : Program} {S : St} {op : BinOp} {k k' : IntKind} {x y : Int} {v : Value} {t : TypeId} {ox oy : Operand} (h : shiftOp op k x y = some v) :
    Reads P S (do eqGuard op t ox oy (.int k x) (.int k' y); binOp op t (.int k x) (.int k' y)) v := by
  unfold shiftOp at h
  split at h
  · cases h
  · rename_i hy
    cases op <;> simp only at h <;> first
      | (cases h; done)
      | (obtain rfl := Option.some.inj h; refine ⟨_, ?_, .int _ _⟩; simp [eqGuard_shl, eqGuard_shr, binOp_shl, binOp_shr, Op.shift, hy])

theorem size_data (x : ByteArray) : x.size = x.data.toList.length := by rw [Array.length_toList]; rfl
theorem ba_ext {x y : ByteArray} (h : x.data.toList = y.data.toList) : x = y := by
  cases x; cases y; simp only at h; congr 1; exact Array.toList_inj.1 h
theorem ba_append (x y : ByteArray) : x ++ y = ⟨(x.data.toList ++ y.data.toList).toArray⟩ := by
  apply ba_ext
  rw [ByteArray.data_append, Array.toList_append]
theorem strOp_ok {P : Program} {S : St} {op : BinOp} {x y : ByteArray} {v : Value} {t : TypeId} {ox oy : Operand} (h : strOp op x y = some v) :
    Reads P S (do eqGuard op t ox oy (.string x) (.string y); binOp op t (.string x) (.string y)) v := by
  have hb : ∀ op, binOp op t (.string x) (.string y) = Op.stringOp op x y := fun op => by cases op <;> rfl
  simp only [eqGuard_at_string, hb]
  cases op <;> simp only [strOp] at h <;> first
    | (cases h; done)
    | (split at h
       · rename_i hle
         obtain rfl := Option.some.inj h
         refine ⟨_, ?_, .string _⟩
         have hle' : x.size + y.size ≤ 4294967296 := by rw [size_data, size_data]; simpa [Nat.ble_eq] using hle
         have hn : ¬ ((9223372036854775807 : Int) < (x.size : Int) + (y.size : Int)) := by omega
         simp [Op.stringOp, hn, ba_append]
       · cases h)
    | (obtain rfl := Option.some.inj h; refine ⟨_, ?_, .bool _⟩; simp [Op.stringOp, ByteArray.toList_eq])

theorem nilEq_ok' {P : Program} {S : St} {t : TypeId} {x y x' y' : Value} {b : Bool} (d : Nat) (hx : VR S x x') (hy : VR S y y') (h : nilEq P t x y = some b) : (Op.equalIn (d + 1) t x' y').run P S.w = .ok b S.w := by
  unfold nilEq at h
  split at h
  · rename_i a1 a2 hu; cases hx; cases hy; obtain rfl := Option.some.inj h; simp [Op.equalIn, run_underlying hu]
  · rename_i e q hu; cases hx; obtain rfl := Option.some.inj h; cases hy <;> simp [Op.equalIn, run_underlying hu]
  · rename_i e q hu; obtain rfl := Option.some.inj h; cases hx <;> (cases hy; simp [Op.equalIn, run_underlying hu])
  · rename_i e n c q m d hu; obtain rfl := Option.some.inj h; cases hx; cases hy <;> simp [Op.equalIn, run_underlying hu]
  · rename_i e q n c m d hu; obtain rfl := Option.some.inj h; cases hx; cases hy; simp [Op.equalIn, run_underlying hu]
  · rename_i e1 e2 q hu; obtain rfl := Option.some.inj h; cases hx; cases hy <;> simp [Op.equalIn, run_underlying hu]
  · rename_i e1 e2 q hu; obtain rfl := Option.some.inj h; cases hx; cases hy; simp [Op.equalIn, run_underlying hu]
  · rename_i hu; obtain rfl := Option.some.inj h; cases hx; cases hy; simp [Op.equalIn, run_underlying hu]
  · rename_i hu; obtain rfl := Option.some.inj h; cases hx; cases hy; simp [Op.equalIn, run_underlying hu]
  · rename_i hu; obtain rfl := Option.some.inj h; cases hx; cases hy; simp [Op.equalIn, run_underlying hu]
  · cases h

theorem nilEq_ok {P : Program} {S : St} {t : TypeId} {x y x' y' : Value} {b : Bool} (hx : VR S x x') (hy : VR S y y') (h : nilEq P t x y = some b) : (Op.equal t x' y').run P S.w = .ok b S.w :=
  nilEq_ok' 9999 hx hy h
/-- What nilEq serves. -/
def nilKind : Value → Bool
  | .bool _ | .pointer _ | .slice _ _ _ | .map _ | .nilFunc | .func _ _ _ => true
  | _ => false
theorem nilEq_kind {P : Program} {t : TypeId} {x y : Value} {b : Bool} (h : nilEq P t x y = some b) : nilKind x = true := by
  unfold nilEq at h
  split at h <;> first | rfl | (cases h; done)
theorem eqGuard_nilKind (op : BinOp) (t : TypeId) (ox oy : Operand) (x y : Value) (h : nilKind x = true) : eqGuard op t ox oy x y = pure () := by
  cases x <;> first | (simp [nilKind] at h; done) | (cases op <;> rfl)
theorem VR.kind {S : St} {v v' : Value} (h : VR S v v') : nilKind v = nilKind v' := by cases h <;> rfl
theorem binOp_eql_nil (t : TypeId) (x y : Value) (h : nilKind x = true) : binOp .eql t x y = (do pure (.bool (← Op.equal t x y))) := by
  cases x <;> first | (simp [nilKind] at h; done) | (cases y <;> rfl)
theorem binOp_neq_nil (t : TypeId) (x y : Value) (h : nilKind x = true) : binOp .neq t x y = (do pure (.bool (!(← Op.equal t x y)))) := by
  cases x <;> first | (simp [nilKind] at h; done) | (cases y <;> rfl)

theorem nilA_ok {P : Program} {S : St} {op : BinOp} {t : TypeId} {x y x' y' v : Value} {ox oy : Operand} (hx : VR S x x') (hy : VR S y y')
    (h : (match op with
      | .eql => match nilEq P t x y with | some b => some (.bool b) | none => none
      | .neq => match nilEq P t x y with | some b => some (.bool (!b)) | none => none
      | _ => none) = some v) : Reads P S (do eqGuard op t ox oy x' y'; binOp op t x' y') v := by
  cases op <;> simp only at h <;> first
    | (cases h; done)
    | (split at h
       · rename_i b hb
         obtain rfl := Option.some.inj h
         have hk : nilKind x' = true := by rw [← hx.kind]; exact nilEq_kind hb
         refine ⟨_, ?_, .bool _⟩
         simp [eqGuard_nilKind _ _ _ _ _ _ hk, binOp_eql_nil _ _ _ hk, binOp_neq_nil _ _ _ hk, nilEq_ok hx hy hb]
       · cases h)

theorem intsEqA_vr {S : St} : ∀ {xs ys xs' ys' : List Value} {b : Bool}, intsEqA xs ys = some b → VRL S xs xs' → VRL S ys ys' → intsEqA xs' ys' = some b
  | [], [], xs', ys', b, h, hx, hy => by rw [hx.nil_inv, hy.nil_inv]; exact h
  | x :: r, y :: q, xs', ys', b, h, hx, hy => by
    obtain ⟨x', r', rfl, hx1, hx2⟩ := hx.cons_inv
    obtain ⟨y', q', rfl, hy1, hy2⟩ := hy.cons_inv
    unfold intsEqA at h
    split at h
    · rename_i heq1 heq2; cases heq1
    · rename_i k a r0 k' b0 q0 heq1 heq2
      injection heq1 with e1 e2; injection heq2 with e3 e4
      subst e1; subst e2; subst e3; subst e4
      cases hx1; cases hy1
      split at h
      · rename_i t hk ht
        have := intsEqA_vr ht hx2 hy2
        unfold intsEqA
        simp only [hk, this]
        exact h
      · cases h
    · cases h
  | [], y :: q, _, _, b, h, _, _ => by simp [intsEqA] at h
  | x :: r, [], _, _, b, h, _, _ => by simp [intsEqA] at h
theorem forIn_elems {P : Program} {e : TypeId} {k' : IntKind} (he : P.underlying e = some (.int k')) (hag : isAggB P e = some false) (w : World) (d : Nat) (xs ys : Array Value) : ∀ (len i : Nat) (b : Bool), intsEqA (xs.toList.drop i) (ys.toList.drop i) = some b → xs.size = i + len → ys.size = i + len →
    (forIn (List.range' i len 1) ((none : Option Bool), ()) fun i __s => do
      let a ← part e xs (i * 1)
      let c ← part e ys (i * 1)
      let r ← Op.equalIn (d + 1) e a c
      if (!r) = true then pure (ForInStep.done (some false, ())) else pure (ForInStep.yield (none, ()))).run P w = .ok (if b then none else some false, ()) w := by
  intro len
  induction len with
  | zero =>
    intro i b h hx hy
    rw [List.drop_eq_nil_of_le (by simp; omega), List.drop_eq_nil_of_le (by simp; omega)] at h
    simp only [intsEqA] at h
    obtain rfl := Option.some.inj h
    simp
  | succ len ih =>
    intro i b h hx hy
    have hxi : i < xs.toList.length := by simp; omega
    have hyi : i < ys.toList.length := by simp; omega
    rw [List.drop_eq_getElem_cons hxi, List.drop_eq_getElem_cons hyi] at h
    unfold intsEqA at h
    split at h
    · rename_i heq1 _; cases heq1
    · rename_i k a r0 k2 b0 q0 heq1 heq2
      injection heq1 with e1 e2; injection heq2 with e3 e4
      subst e2; subst e4
      split at h
      case h_2 => cases h
      rename_i t hk ht
      have hkk : k = k2 := by split at hk; assumption; cases hk
      subst hkk
      obtain rfl := Option.some.inj h
      have hpx : (part e xs (i * 1)).run P w = .ok (.int k a) w := by
        have : xs[i]? = some (.int k a) := by rw [← Array.getElem?_toList, List.getElem?_eq_getElem hxi, e1]
        simp [part, run_isAgg hag, this]
      have hpy : (part e ys (i * 1)).run P w = .ok (.int k b0) w := by
        have : ys[i]? = some (.int k b0) := by rw [← Array.getElem?_toList, List.getElem?_eq_getElem hyi, e3]
        simp [part, run_isAgg hag, this]
      have heq : (Op.equalIn (d + 1) e (.int k a) (.int k b0)).run P w = .ok (a == b0) w := by simp [Op.equalIn, run_underlying he]
      rw [List.range'_succ, List.forIn_cons]
      simp only [Sem.run_bind, hpx, hpy, heq, Result.andThen_ok]
      cases hab : (a == b0) with
      | false => simp
      | true =>
        simp only [Bool.not_true, Bool.false_eq_true, if_false, Sem.run_pure, Result.andThen_ok, Bool.true_and]
        exact ih (i + 1) t ht (by omega) (by omega)
    · cases h
theorem run_equalIn_ints {P : Program} (w : World) (d : Nat) {n : Nat} {t e : TypeId} {k : IntKind} {xs ys : Array Value} {b : Bool} (hu : P.underlying t = some (.array n e)) (hsz : sizeB P e = some 1) (hue : P.underlying e = some (.int k)) (hag : isAggB P e = some false)
    (h : intsEqA (xs.toList.drop 0) (ys.toList.drop 0) = some b) (hx : xs.size = 0 + n) (hy : ys.size = 0 + n) : (Op.equalIn (d + 1 + 1) t (.agg xs) (.agg ys)).run P w = .ok b w := by
  rw [Op.equalIn]
  simp only [Sem.run_bind, run_underlying hu, Result.andThen_ok, run_sizeOf hsz]
  rw [Std.Legacy.Range.forIn_eq_forIn_range']
  have := forIn_elems hue hag w d xs ys n 0 b h hx hy
  have hr : List.range' [:n].start [:n].size [:n].step = List.range' 0 n 1 := by simp [Std.Legacy.Range.size]
  rw [hr, this]
  cases b <;> simp
theorem eqFields_ints {P : Program} (w : World) (d : Nat) {xs ys : Array Value} : ∀ (fs : List Field) (i : Nat) (b : Bool), fieldsInt P fs i = true → intsEqA (xs.toList.drop i) (ys.toList.drop i) = some b → xs.size = i + fs.length → ys.size = i + fs.length →
    (Op.eqFields (d + 1) xs ys fs).run P w = .ok b w
  | [], i, b, _, h, hx, hy => by
    rw [List.drop_eq_nil_of_le (by simp at hx; simp; omega), List.drop_eq_nil_of_le (by simp at hy; simp; omega)] at h
    simp only [intsEqA] at h
    obtain rfl := Option.some.inj h
    simp [Op.eqFields]
  | f :: r, i, b, hf, h, hx, hy => by
    have hxi : i < xs.toList.length := by simp at hx; simp; omega
    have hyi : i < ys.toList.length := by simp at hy; simp; omega
    rw [List.drop_eq_getElem_cons hxi, List.drop_eq_getElem_cons hyi] at h
    unfold fieldsInt at hf
    rw [Bool.and_eq_true] at hf
    obtain ⟨hf1, hf2⟩ := hf
    split at hf1
    case h_2 => cases hf1
    rename_i k' hue
    simp only [Bool.and_eq_true, Nat.beq_eq] at hf1
    obtain ⟨hname, hoff⟩ := hf1
    have hname' : f.name ≠ "_" := by simpa using hname
    have hag : isAggB P f.type = some false := by unfold isAggB; rw [hue]
    unfold intsEqA at h
    split at h
    · rename_i heq1 _; cases heq1
    · rename_i k a r0 k2 b0 q0 heq1 heq2
      injection heq1 with e1 e2; injection heq2 with e3 e4
      subst e2; subst e4
      split at h
      case h_2 => cases h
      rename_i t hk ht
      have hkk : k = k2 := by split at hk; assumption; cases hk
      subst hkk
      obtain rfl := Option.some.inj h
      have hpx : (part f.type xs f.offset).run P w = .ok (.int k a) w := by
        have : xs[i]? = some (.int k a) := by rw [← Array.getElem?_toList, List.getElem?_eq_getElem hxi, e1]
        simp [part, run_isAgg hag, hoff, this]
      have hpy : (part f.type ys f.offset).run P w = .ok (.int k b0) w := by
        have : ys[i]? = some (.int k b0) := by rw [← Array.getElem?_toList, List.getElem?_eq_getElem hyi, e3]
        simp [part, run_isAgg hag, hoff, this]
      have heq : (Op.equalIn (d + 1) f.type (.int k a) (.int k b0)).run P w = .ok (a == b0) w := by simp [Op.equalIn, run_underlying hue]
      rw [Op.eqFields, if_pos hname']
      simp only [Sem.run_bind, hpx, hpy, heq, Result.andThen_ok]
      cases hab : (a == b0) with
      | false => simp
      | true =>
        simp only [Bool.not_true, Bool.false_eq_true, if_false, Bool.true_and]
        exact eqFields_ints w d r (i + 1) t hf2 ht (by simp at hx; omega) (by simp at hy; omega)
    · cases h
theorem cellEqA_inv {x y : Value} {b : Bool} (h : cellEqA x y = some b) : (∃ k a c, x = .int k a ∧ y = .int k c ∧ b = (a == c)) ∨ (∃ a c, x = .string a ∧ y = .string c ∧ b = (a.toList == c.toList)) := by
  unfold cellEqA at h
  split at h
  · rename_i k a k' c
    split at h
    · rename_i hk
      subst hk
      exact .inl ⟨k, a, c, rfl, rfl, (Option.some.inj h).symm⟩
    · cases h
  · rename_i a c
    exact .inr ⟨a, c, rfl, rfl, (Option.some.inj h).symm⟩
  · cases h
theorem cellsEqA_cons {x y : Value} {r q : List Value} {b : Bool} (h : cellsEqA (x :: r) (y :: q) = some b) : ∃ a t, cellEqA x y = some a ∧ cellsEqA r q = some t ∧ b = (a && t) := by
  simp only [cellsEqA] at h
  split at h
  · rename_i a t h1 h2
    exact ⟨a, t, h1, h2, (Option.some.inj h).symm⟩
  · cases h
theorem cellsEqA_vr {S : St} : ∀ {xs ys xs' ys' : List Value} {b : Bool}, cellsEqA xs ys = some b → VRL S xs xs' → VRL S ys ys' → xs' = xs ∧ ys' = ys
  | [], [], xs', ys', b, h, hx, hy => ⟨hx.nil_inv, hy.nil_inv⟩
  | x :: r, y :: q, xs', ys', b, h, hx, hy => by
    obtain ⟨x', r', rfl, hx1, hx2⟩ := hx.cons_inv
    obtain ⟨y', q', rfl, hy1, hy2⟩ := hy.cons_inv
    obtain ⟨a, t, h1, h2, _⟩ := cellsEqA_cons h
    obtain ⟨e1, e2⟩ := cellsEqA_vr h2 hx2 hy2
    rw [e1, e2]
    rcases cellEqA_inv h1 with ⟨k, a, c, rfl, rfl, _⟩ | ⟨a, c, rfl, rfl, _⟩
    · cases hx1; cases hy1; exact ⟨rfl, rfl⟩
    · cases hx1; cases hy1; exact ⟨rfl, rfl⟩
  | [], y :: q, _, _, b, h, _, _ => by simp [cellsEqA] at h
  | x :: r, [], _, _, b, h, _, _ => by simp [cellsEqA] at h
theorem eqFields_cells {P : Program} (w : World) (d : Nat) {xs ys : Array Value} : ∀ (fs : List Field) (i : Nat) (b : Bool), fieldsText P fs (xs.toList.drop i) i = true → cellsEqA (xs.toList.drop i) (ys.toList.drop i) = some b → xs.size = i + fs.length → ys.size = i + fs.length →
    (Op.eqFields (d + 1) xs ys fs).run P w = .ok b w
  | [], i, b, _, h, hx, hy => by
    rw [List.drop_eq_nil_of_le (by simp at hx; simp; omega), List.drop_eq_nil_of_le (by simp at hy; simp; omega)] at h
    simp only [cellsEqA] at h
    obtain rfl := Option.some.inj h
    simp [Op.eqFields]
  | f :: r, i, b, hf, h, hx, hy => by
    have hxi : i < xs.toList.length := by simp at hx; simp; omega
    have hyi : i < ys.toList.length := by simp at hy; simp; omega
    rw [List.drop_eq_getElem_cons hxi, List.drop_eq_getElem_cons hyi] at h
    rw [List.drop_eq_getElem_cons hxi] at hf
    simp only [fieldsText] at hf
    rw [Bool.and_eq_true] at hf
    obtain ⟨hf1, hf2⟩ := hf
    obtain ⟨a, t, h1, h2, rfl⟩ := cellsEqA_cons h
    have key : f.name ≠ "_" ∧ (part f.type xs f.offset).run P w = .ok xs.toList[i] w ∧ (part f.type ys f.offset).run P w = .ok ys.toList[i] w ∧ (Op.equalIn (d + 1) f.type xs.toList[i] ys.toList[i]).run P w = .ok a w := by
      have hpx : ∀ (hag : isAggB P f.type = some false) (hoff : f.offset = i), (part f.type xs f.offset).run P w = .ok xs.toList[i] w := fun hag hoff => by
        have : xs[i]? = some xs.toList[i] := by rw [← Array.getElem?_toList, List.getElem?_eq_getElem hxi]
        simp only [part, Sem.run_bind, run_isAgg hag, hoff, this, Result.andThen_ok]
        simp
      have hpy : ∀ (hag : isAggB P f.type = some false) (hoff : f.offset = i), (part f.type ys f.offset).run P w = .ok ys.toList[i] w := fun hag hoff => by
        have : ys[i]? = some ys.toList[i] := by rw [← Array.getElem?_toList, List.getElem?_eq_getElem hyi]
        simp only [part, Sem.run_bind, run_isAgg hag, hoff, this, Result.andThen_ok]
        simp
      split at hf1
      · rename_i k' k0 n0 hue hxe
        simp only [Bool.and_eq_true, Nat.beq_eq] at hf1
        obtain ⟨hname, hoff⟩ := hf1
        have hag : isAggB P f.type = some false := by unfold isAggB; rw [hue]
        refine ⟨by simpa using hname, hpx hag hoff, hpy hag hoff, ?_⟩
        rcases cellEqA_inv h1 with ⟨k, a1, c1, e1, e2, rfl⟩ | ⟨a1, c1, e1, e2, rfl⟩
        · rw [e1, e2]; exact run_equalIn_int w d f.type k k' a1 c1 hue
        · rw [hxe] at e1; cases e1
      · rename_i k0 hue hxe
        simp only [Bool.and_eq_true, Nat.beq_eq] at hf1
        obtain ⟨hname, hoff⟩ := hf1
        have hag : isAggB P f.type = some false := by unfold isAggB; rw [hue]
        refine ⟨by simpa using hname, hpx hag hoff, hpy hag hoff, ?_⟩
        rcases cellEqA_inv h1 with ⟨k, a1, c1, e1, e2, rfl⟩ | ⟨a1, c1, e1, e2, rfl⟩
        · rw [hxe] at e1; cases e1
        · rw [e1, e2]; exact run_equalIn_string w d f.type a1 c1 hue
      · cases hf1
    obtain ⟨hname', hpx, hpy, heq⟩ := key
    rw [Op.eqFields, if_pos hname']
    simp only [Sem.run_bind, hpx, hpy, heq, Result.andThen_ok]
    cases a with
    | false => simp
    | true =>
      simp only [Bool.not_true, Bool.false_eq_true, if_false, Bool.true_and]
      exact eqFields_cells w d r (i + 1) t hf2 h2 (by simp at hx; omega) (by simp at hy; omega)
theorem arrEqA_ok {P : Program} {S : St} {op : BinOp} {t : TypeId} {xs ys xs' ys' : Array Value} {b : Bool} {ox oy : Operand} (hx : VRL S xs.toList xs'.toList) (hy : VRL S ys.toList ys'.toList) (h : arrEqA P t xs ys = some b) :
    (eqGuard op t ox oy (.agg xs') (.agg ys')).run P S.w = .ok () S.w ∧ (Op.equalIn 10000 t (.agg xs') (.agg ys')).run P S.w = .ok b S.w := by
  unfold arrEqA at h
  split at h
  case h_3 => cases h
  case h_2 =>
    rename_i fs hu
    split at h
    case isFalse => cases h
    rename_i hc
    simp only [Bool.and_eq_true, Nat.beq_eq, Bool.not_eq_true'] at hc
    obtain ⟨⟨⟨hxl, hyl⟩, hg⟩, hst⟩ := hc
    have hxs : xs'.size = 0 + fs.toList.length := by have := hx.1; simp at this hxl; simp; omega
    have hys : ys'.size = 0 + fs.toList.length := by have := hy.1; simp at this hyl; simp; omega
    have hfo : P.fieldsOf t = fs := by simp [Program.fieldsOf, hu]
    refine ⟨by cases op <;> simp [eqGuard, hg], ?_⟩
    have := run_equalIn_struct (P := P) S.w 9999 t xs' ys' (by rw [hfo]; exact hu) hst
    split at h
    · rename_i hfi
      have h2 := intsEqA_vr h hx hy
      rw [hfo, eqFields_ints S.w 9998 fs.toList 0 b hfi (by simpa using h2) hxs hys] at this
      exact this
    · split at h
      case isFalse => cases h
      rename_i hfi
      obtain ⟨e1, e2⟩ := cellsEqA_vr h hx hy
      rw [hfo, eqFields_cells S.w 9998 fs.toList 0 b (by rw [e1]; simpa using hfi) (by rw [e1, e2]; simpa using h) hxs hys] at this
      exact this
  rename_i n e hu
  split at h
  case h_2 => cases h
  rename_i k hue hsz
  split at h
  case isFalse => cases h
  rename_i hc
  simp only [Bool.and_eq_true, Nat.beq_eq, Bool.not_eq_true'] at hc
  obtain ⟨⟨hxl, hyl⟩, hg⟩ := hc
  have hag : isAggB P e = some false := by unfold isAggB; rw [hue]
  have h2 := intsEqA_vr h hx hy
  have hxs : xs'.size = n := by have := hx.1; simp at this hxl; omega
  have hys : ys'.size = n := by have := hy.1; simp at this hyl; omega
  constructor
  · cases op <;> simp [eqGuard, hg]
  · exact run_equalIn_ints S.w 9998 hu hsz hue hag (by simpa using h2) (by omega) (by omega)
theorem binA_ok {P : Program} {S : St} {op : BinOp} {t : TypeId} {x y x' y' v : Value} {ox oy : Operand} (hx : VR S x x') (hy : VR S y y') (h : binA P op t x y = some v) :
    Reads P S (do eqGuard op t ox oy x' y'; binOp op t x' y') v := by
  unfold binA at h
  split at h
  · rename_i xs ys
    obtain ⟨xs', rfl, hxv⟩ := hx.agg_inv
    obtain ⟨ys', rfl, hyv⟩ := hy.agg_inv
    split at h
    · split at h
      · rename_i b hb
        obtain rfl := Option.some.inj h
        obtain ⟨h1, h2⟩ := arrEqA_ok (op := .eql) (ox := ox) (oy := oy) hxv hyv hb
        exact ⟨_, by simp only [Sem.run_bind, h1, Result.andThen_ok, run_eql_struct, h2], .bool _⟩
      · cases h
    · split at h
      · rename_i b hb
        obtain rfl := Option.some.inj h
        obtain ⟨h1, h2⟩ := arrEqA_ok (op := .neq) (ox := ox) (oy := oy) hxv hyv hb
        exact ⟨_, by simp only [Sem.run_bind, h1, Result.andThen_ok, run_neq_struct, h2], .bool _⟩
      · cases h
    · cases h
  · rename_i k a k' b
    cases hx; cases hy
    split at h
    · exact shiftOp_ok h
    · exact shiftOp_ok h
    · rename_i h1 h2
      split at h
      · rename_i hk; subst hk; exact intOp_ok h (fun e => h1 e) (fun e => h2 e)
      · cases h
  · cases hx; cases hy; exact strOp_ok h
  · exact nilA_ok hx hy h

theorem unA_ok {P : Program} {S : St} {op : UnOp} {x x' v : Value} (hx : VR S x x') (h : unA op x = some v) : Reads P S (Op.unary op x') v := by
  unfold unA at h
  split at h
  · cases hx; simp only [intOp] at h; obtain rfl := Option.some.inj h; exact ⟨_, by simp [Op.unary, Op.intArith], .int _ _⟩
  · cases hx; simp only [intOp] at h; obtain rfl := Option.some.inj h; exact ⟨_, by simp [Op.unary, Op.intBits], .int _ _⟩
  · cases hx; obtain rfl := Option.some.inj h; exact ⟨_, by simp [Op.unary], .bool _⟩
  · cases h

/-! Places. -/
theorem indexAddrA_ok {P : Program} {S : St} {t : TypeId} {x ix x' ix' v : Value} (hx : VR S x x') (hi : VR S ix ix') (h : indexAddrA P t x ix = some v) : Reads P S (Instr.indexAt t x' ix') v := by
  unfold indexAddrA at h
  split at h
  · rename_i e i off len c k n hu
    cases hi
    cases hx with
    | slice _ _ _ _ a cap h0 hz hr =>
    split at h
    · rename_i z hz'
      split at h
      · rename_i hlt
        obtain rfl := Option.some.inj h
        have hlt' : n < len := by simpa [Nat.blt_eq] using hlt
        obtain ⟨⟨b, hb, hc, hl⟩, _⟩ := hr (by omega)
        refine ⟨.pointer (some (a.add (n * z))), ?_, .ptr _ _ _ _ ⟨b, hb, hc, fun hlow => ?_⟩⟩
        · have hlt2 : ((Int.ofNat n) < (len : Int)) := by simp only [Int.ofNat_eq_natCast]; omega
          have h02 : (0 : Int) ≤ Int.ofNat n := by simp
          simp [Instr.indexAt, run_underlying hu, asIntOf, run_sizeOf hz']
          omega
        · rw [hl hlow, Addr.add_lit, Nat.add_assoc]
      · cases h
    · cases h
  · rename_i len e i off c k n hu
    cases hi
    obtain ⟨a, rfl, b, hb, hc, hl⟩ := hx.ptr_inv
    split at h
    · rename_i z hz'
      split at h
      · rename_i hlt
        obtain rfl := Option.some.inj h
        have hlt' : n < len := by simpa [Nat.blt_eq] using hlt
        refine ⟨.pointer (some (a.add (n * z))), ?_, .ptr _ _ _ _ ⟨b, hb, hc, fun hlow => ?_⟩⟩
        · simp [Instr.indexAt, run_underlying hu, asIntOf, run_sizeOf hz', Instr.sureAddr]
          omega
        · rw [hl hlow, Addr.add_lit, Nat.add_assoc]
      · cases h
    · cases h
  · cases h

theorem fieldAddrA_ok {P : Program} {S : St} {t : TypeId} {x x' v : Value} {f : Nat} (hx : VR S x x') (h : fieldAddrA P t x f = some v) : Reads P S (Instr.fieldAt t x' f) v := by
  unfold fieldAddrA at h
  split at h
  · rename_i fs i off c hu
    obtain ⟨a, rfl, b, hb, hc, hl⟩ := hx.ptr_inv
    split at h
    · rename_i fd hf
      split at h
      · rename_i z hz'
        obtain rfl := Option.some.inj h
        refine ⟨.pointer (some (a.add fd.offset)), ?_, .ptr _ _ _ _ ⟨b, hb, hc, fun hlow => ?_⟩⟩
        · simp [Instr.fieldAt, run_underlying hu, hf, Instr.sureAddr, fieldPlace, run_sizeOf hz']
        · rw [hl hlow, Addr.add_lit, Nat.add_assoc]
      · cases h
    · cases h
  · cases h

theorem partA_ok {P : Program} {S : St} {t : TypeId} {cs cs' : Array Value} {off : Nat} {v : Value} (hv : VRL S cs.toList cs'.toList) (h : partA P t cs.toList off = some v) : Reads P S (part t cs' off) v := by
  unfold partA at h
  split at h
  · rename_i n hag hsz
    rw [takeN_eq, dropN_eq] at h
    split at h
    · rename_i l hl
      split at hl
      · rename_i hn
        obtain rfl := Option.some.inj hl
        obtain rfl := Option.some.inj h
        refine ⟨.agg (cs'.extract off (off + n)), by simp [part, run_isAgg hag, run_sizeOf hsz], ?_⟩
        have hlen := hv.1
        refine .agg _ _ (by simp; simp at hlen; omega) (fun i hi => ?_)
        simp only [List.length_take, List.length_drop] at hi
        have hi' : i < n := by simp at hi; omega
        have := hv.2 (off + i) (by simp at hn ⊢; omega)
        simp only [List.getD_eq_getElem?_getD, Array.getElem?_toList] at this ⊢
        simp only [List.getElem?_take, hi', if_true, List.getElem?_drop, Array.getElem?_toList, Array.getElem?_extract]
        rw [if_pos (by simp at hn hlen; omega)]
        exact this
      · cases hl
    · cases h
  · rename_i hag
    rw [dropN_eq] at h
    split at h
    · rename_i v0 r hd
      obtain rfl := Option.some.inj h
      have hoff : off < cs.toList.length := by
        rcases Nat.lt_or_ge off cs.toList.length with h' | h'
        · exact h'
        · rw [List.drop_eq_nil_of_le h'] at hd; cases hd
      have h0 : cs.toList.getD off undef = v0 := by
        have := congrArg (fun l => l.getD 0 undef) hd
        simpa [List.getD_eq_getElem?_getD, List.getElem?_drop] using this
      have hoff' : off < cs'.size := by have := hv.1; simp at this hoff; omega
      have := hv.2 off hoff
      rw [h0] at this
      refine ⟨cs'.toList.getD off undef, ?_, this⟩
      simp [part, run_isAgg hag, List.getD_eq_getElem?_getD, hoff']
    · cases h
  · cases h

theorem fieldA_ok {P : Program} {S : St} {t : TypeId} {x x' v : Value} {f : Nat} (hx : VR S x x') (h : fieldA P t x f = some v) : Reads P S (Instr.field t x' f) v := by
  unfold fieldA at h
  split at h
  · rename_i fs cs hu
    obtain ⟨cs', rfl, hcs⟩ := hx.agg_inv
    split at h
    · rename_i fd hf
      obtain ⟨v', h1, h2⟩ := partA_ok (P := P) hcs h
      exact ⟨v', by simp [Instr.field, run_underlying hu, hf, asAgg, h1], h2⟩
    · cases h
  · cases h

theorem indexA_ok {P : Program} {S : St} {t : TypeId} {x ix x' ix' v : Value} (hx : VR S x x') (hi : VR S ix ix') (h : indexA P t x ix = some v) : Reads P S (Instr.index t x' ix') v := by
  unfold indexA at h
  split at h
  · rename_i bs k n hu
    cases hi; cases hx
    split at h
    · rename_i c r hd
      obtain rfl := Option.some.inj h
      have hn : n < bs.data.toList.length := by
        rcases Nat.lt_or_ge n bs.data.toList.length with h' | h'
        · exact h'
        · rw [List.drop_eq_nil_of_le h'] at hd; cases hd
      have h0 : bs[n]? = some c := by
        have := congrArg (fun l => l[0]?) hd
        simp only [List.getElem?_drop, Nat.add_zero, List.getElem?_cons_zero] at this
        have hlt : n < bs.size := by rw [size_data]; exact hn
        rw [getElem?_pos bs n hlt]
        rw [List.getElem?_eq_getElem hn] at this
        rw [← Option.some.inj this, Array.getElem_toList]
        rfl
      refine ⟨_, ?_, .int _ _⟩
      simp [Instr.index, run_underlying hu, asIntOf, h0]
    · cases h
  · rename_i len e cs k n hu
    cases hi
    obtain ⟨cs', rfl, hcs⟩ := hx.agg_inv
    split at h
    · rename_i z hz'
      split at h
      · rename_i hlt
        have hlt' : n < len := by simpa [Nat.blt_eq] using hlt
        obtain ⟨v', h1, h2⟩ := partA_ok (P := P) hcs h
        refine ⟨v', ?_, h2⟩
        simp [Instr.index, run_underlying hu, asIntOf, run_sizeOf hz', h1]
        omega
      · cases h
    · cases h
  · cases h

theorem extractA_ok {P : Program} {S : St} {x x' v : Value} {i : Nat} (hx : VR S x x') (h : extractA x i = some v) : Reads P S (Instr.extract x' i) v := by
  unfold extractA at h
  split at h
  · rename_i vs
    obtain ⟨vs', rfl, hvs⟩ := hx.tuple_inv
    have hi : i < vs.size := by
      rcases Nat.lt_or_ge i vs.size with h' | h'
      · exact h'
      · rw [Array.getElem?_eq_none h'] at h; cases h
    have hi' : i < vs'.size := by have := hvs.1; simp at this; omega
    have := hvs.2 i (by simpa using hi)
    simp only [List.getD_eq_getElem?_getD, Array.getElem?_toList, h] at this
    refine ⟨vs'[i], by simp [Instr.extract, hi'], by simpa [hi'] using this⟩
  · cases h

end Go.Cl
