/-
 The clean machine, part 22: rules for what makes memory and what writes it.
-/
import Derived.Test.YthlbahnfimigcaaDraw
namespace Go.Cl
section
variable {P : Program} {lib : Prims} {all r : List Oper} {f : AFr} {s : ASt} {d : Option Tmp} {Q : AFr -> ASt -> Prop}
theorem wstep_newSlice {cs : List Value} {n z : Nat} (h : cs.length = n * z) (K : ∀ v s', Own s' z v n cs -> Fresh s.next v -> Stay s.next s s' -> wstep P lib all r f s d Q (some (.val v s'))) : wstep P lib all r f s d Q (pOf (newSlice s cs n z)) := by
 obtain ⟨h1, h2⟩ := Own.new (s := s) h
 rw [h1, pOf_some]
 exact K _ _ h2 (fun i hi => by injection hi with hi; subst hi; exact Nat.le_refl _) (Stay.new s _)
theorem wstep_append {st xt e : TypeId} {xd : TypeDesc} {z by8 : Nat} {zv : Value} (hu : P.underlying st = some (.slice e)) (hux : P.underlying xt = some xd) (hxd : (∃ e2, xd = .slice e2) ∨ xd = .string) (hsz : sizeB P e = some z) (hby : bytesB P e = some by8) (hzv : zeroB P e = some zv) (hzl : Nat.beq zv.cells.toList.length z = true)
  {x y : Value} {n m : Nat} {l new : List Value} (hx : Own s z x n l) (hy : srcCells s z y = some (m, new)) (hnew : new.length = m * z) (hz0 : 0 < z) (hok : new.all okCell = true) (hb1 : (n + m) * by8 ≤ 140737488355328) (hb2 : n + m ≤ 140737488355328) {base : Nat} (hF : Fresh base x) (hB : base ≤ s.next)
  (K : ∀ x' s', Own s' z x' (n + m) (l ++ new) -> Fresh base x' -> Stay base s s' -> Turns x s s' -> (idOf x' = idOf x ∨ ∃ i, idOf x' = some i ∧ s.next ≤ i) -> wstep P lib all r f s d Q (some (.val x' s'))) : wstep P lib all r f s d Q (pOf (appendA P s st xt x y)) := by
 obtain ⟨x', s', h1, h2, h3, h4⟩ := Own.append hu hux hxd hsz hby hzv hzl hx hy hnew hz0 hok hb1 hb2
 rw [h1, pOf_some]
 refine K _ _ h2 (fun i hi => ?_) (h3.keeps hF hB) h3 h4
 rcases h4 with h4 | ⟨j, hj, hl⟩
 ·exact hF i (by rw [← h4]; exact hi)
 ·rw [hj] at hi; injection hi with hi; omega
theorem wstep_append_lit {st e : TypeId} {z by8 : Nat} {zv : Value} (hu : P.underlying st = some (.slice e)) (hsz : sizeB P e = some z) (hby : bytesB P e = some by8) (hzv : zeroB P e = some zv) (hzl : Nat.beq zv.cells.toList.length z = true)
  {x : Value} {n m : Nat} {l new : List Value} {a b : Tmp} {ty : TypeId} {ps : String} {af : Array Edge} (hx : Own s z x n l) (hfa : f.get a = x) (hab : b ≠ a) (ha : a < f.n) (hb : b < f.n) (hnew : new.length = m * z) (hz0 : 0 < z) (hok : new.all okCell = true) (hb1 : (n + m) * by8 ≤ 140737488355328) (hb2 : n + m ≤ 140737488355328) {base : Nat} (hF : Fresh base x) (hB : base ≤ s.next)
  (K : ∀ bs x' s', Own s' z x' (n + m) (l ++ new) -> Fresh base x' -> Stay base s s' -> Turns x s s' -> (idOf x' = idOf x ∨ ∃ i, idOf x' = some i ∧ s.next ≤ i) -> wstep P lib all r (f.put b bs) s' d Q (some (.val x' s'))) :
  wstep P lib all (⟨d, .call ⟨.builtin .append, #[.tmp a, .tmp b], #[st, st]⟩, ty, ps, af, none⟩ :: r) f s (some b) Q (pOf (newSlice s new m z)) := by
 refine wstep_newSlice hnew fun bs s1 h1 h2 h3 => ?_
 have hx1 := hx.keeps h3
 obtain ⟨x', s', g1, g2, g3, g4⟩ := Own.append hu hu (.inl ⟨e, rfl⟩) hsz hby hzv hzl hx1 h1.sees.src hnew hz0 hok hb1 hb2
 have g4' : idOf x' = idOf x ∨ ∃ i, idOf x' = some i ∧ s.next ≤ i := g4.imp id (fun ⟨i, a, b⟩ => ⟨i, a, Nat.le_trans h3.next b⟩)
 have g3' : Turns x s s' := ⟨Nat.le_trans h3.next g3.next, fun i hi hne => (g3.get i (Nat.lt_of_lt_of_le hi h3.next) hne).trans (h3.get i hi)⟩
 have hF' : Fresh base x' := fun i hi => by
  rcases g4' with h4 | ⟨j, hj, hl⟩
  ·exact hF i (by rw [← h4]; exact hi)
  ·rw [hj] at hi; injection hi with hi; omega
 have k := K bs x' s' g2 hF' (g3'.keeps hF hB) g3' g4'
 have e1 : evalAll (f.put b bs) [.tmp a, .tmp b] = some [x, bs] := by
  simp only [evalAll, evalA_tmp, n_put, ha, hb, if_true, get_put, hfa, if_neg hab]
 have e2 : aop P ⟨d, .call ⟨.builtin .append, #[.tmp a, .tmp b], #[st, st]⟩, ty, ps, af, none⟩ (f.put b bs) s1 = some (.val x' s') := by
  rw [aop_call_builtin, e1]
  simp only [builtin_append, g1, pOf_some]
 rw [wstep_val, if_pos hb, wops_cons, wanted_none, wwant_true, e2]
 exact k
theorem build1 {t e : TypeId} {k : IntKind} {a : Int} (hu : P.underlying t = some (.slice e)) (hsz : sizeB P e = some 1) (hz : zeroB P e = some (.int k 0)) : buildSliceA P s t 1 [(0, .int k a)] = newSlice s [.int k a] 1 1 := by
 unfold buildSliceA; rw [hu]; simp only [hsz, hz]; rfl
end
structure Thing (s : ASt) (i : Nat) (cs : List Value) : Prop where
 lt : i < s.next
 blk : ∃ low z, s.blk? i = some ⟨cs, low, true, z⟩ ∧ low ≤ cs.length + 1
theorem Thing.keeps {s s' : ASt} {i : Nat} {cs : List Value} (h : Thing s i cs) (k : Stay s.next s s') : Thing s' i cs :=
 ⟨Nat.lt_of_lt_of_le h.lt k.next, by obtain ⟨low, z, h1, h2⟩ := h.blk; exact ⟨low, z, (k.blk h.lt).trans h1, h2⟩⟩
theorem Thing.turns {s s' : ASt} {i : Nat} {cs : List Value} {v : Value} (h : Thing s i cs) (k : Turns v s s') (hne : idOf v ≠ some i) : Thing s' i cs :=
 ⟨Nat.lt_of_lt_of_le h.lt k.next, by
  obtain ⟨low, z, h1, h2⟩ := h.blk
  refine ⟨low, z, ?_, h2⟩
  simp only [ASt.blk?, k.get i h.lt hne]; exact h1⟩
theorem Thing.load {P : Program} {e : TypeId} (hag : isAggB P e = some false) {s : ASt} {i : Nat} {cs : List Value} (h : Thing s i cs) {off c : Nat} (hc : c = cs.length + 1) (ho : off < cs.length) : loadA P s e (.pointer (some ⟨i, off, some c⟩)) = some (cs.getD off undef) := by
 obtain ⟨low, z, h1, h2⟩ := h.blk
 subst hc
 unfold loadA
 simp only [hag]
 rw [cellsAt_eq h1 h2 (Nat.le_refl _) (by omega)]
 have : (cs.drop off).take 1 = [cs.getD off undef] := by
  rw [List.take_one, List.head?_drop, List.getElem?_eq_getElem (by omega)]
  simp [List.getD, List.getElem?_eq_getElem (show off < cs.length by omega)]
 simp only [this]
theorem Thing.loadAll {P : Program} {e : TypeId} (hag : isAggB P e = some true) {s : ASt} {i : Nat} {cs : List Value} (hsz : sizeB P e = some cs.length) (h : Thing s i cs) {c : Nat} (hc : c = cs.length + 1) : loadA P s e (.pointer (some ⟨i, 0, some c⟩)) = some (.agg cs.toArray) := by
 obtain ⟨low, z, h1, h2⟩ := h.blk
 subst hc
 unfold loadA
 simp only [hag, hsz]
 rw [cellsAt_eq h1 h2 (Nat.le_refl _) (by omega)]
 simp
theorem setAt_eq : ∀ (l : List Value) (off : Nat) (vs : List Value), off + vs.length ≤ l.length -> setAt l off vs = some (l.take off ++ vs ++ l.drop (off + vs.length)) := by
 intro l
 induction l with
 | nil => intro off vs h; cases vs with
  | nil => simp at h; subst h; simp [setAt]
  | cons v r => simp at h
 | cons c r ih =>
  intro off vs h
  cases off with
  | zero =>
   cases vs with
   | nil => simp [setAt]
   | cons v vs =>
    simp only [setAt]
    rw [ih 0 vs (by simpa using h)]
    simp
  | succ n =>
   cases vs with
   | nil => simp [setAt]
   | cons v vs =>
    simp only [setAt]
    rw [ih n (v :: vs) (by simp at h ⊢; omega)]
    simp only [List.length_cons, List.take_succ_cons, List.cons_append, show n + 1 + (vs.length + 1) = (n + (vs.length + 1)) + 1 by omega, List.drop_succ_cons]
theorem Thing.store {P : Program} {e : TypeId} (hsz : sizeB P e = some 1) {s : ASt} {i : Nat} {cs : List Value} (h : Thing s i cs) {off c : Nat} (hc : c = cs.length + 1) (ho : off < cs.length) {v : Value} (hv : okCell v = true) :
  ∃ s', storeA P s e (.pointer (some ⟨i, off, some c⟩)) v = some s' ∧ Thing s' i (cs.set off v) ∧ (s'.next = s.next ∧ ∀ j, j ≠ i -> s'.heap.get j = s.heap.get j) := by
 obtain ⟨low, z, h1, h2⟩ := h.blk
 subst hc
 have hcells : v.cells.toList = [v] := by cases v <;> first | rfl | cases hv
 refine ⟨s.put i (.blk ⟨cs.set off v, cs.length + 1, true, z⟩), ?_, ⟨h.lt, cs.length + 1, z, ?_, by simp⟩, rfl, fun j hj => ASt.get_put_ne _ _ _ _ (Ne.symm hj)⟩
 ·unfold storeA
  simp only [hsz, hcells, List.length_singleton]
  unfold ASt.storeAt
  have hset : setAt cs off [v] = some (cs.set off v) := by
   rw [setAt_eq _ _ _ (by simp; omega)]
   rw [List.set_eq_take_append_cons_drop, if_pos ho]
   simp
  have hcond : (true && Nat.ble low (cs.length + 1) && Nat.beq (cs.length + 1) (cs.length + 1) && [v].all okCell) = true := by
   simp [h2, hv]
  simp only [h1, hcond, if_true, hset]
  rfl
 ·exact ASt.blk?_put_self _ _ _ (by omega)
section
variable {P : Program} {lib : Prims} {all r : List Oper} {f : AFr} {s : ASt} {d : Option Tmp} {Q : AFr -> ASt -> Prop}
theorem wstep_newPtr {cs : List Value} {z : Nat} (K : ∀ s', Thing s' s.next cs -> Stay s.next s s' -> s'.next = s.next + 1 -> wstep P lib all r f s d Q (some (.val (.pointer (some ⟨s.next, 0, some (cs.length + 1)⟩)) s'))) : wstep P lib all r f s d Q (pOf (newPtr s cs z)) := by
 have : newPtr s cs z = some (.pointer (some ⟨s.next, 0, some (cs.length + 1)⟩), s.new (.blk ⟨cs, 1, true, z⟩)) := by simp [newPtr, ASt.room]
 rw [this, pOf_some]
 exact K _ ⟨by rw [next_new]; omega, 1, z, blk_new _ _, by omega⟩ (Stay.new _ _) rfl
end
theorem Turns.ofPut {s s' : ASt} {i o : Nat} {c : Option Nat} (h1 : s'.next = s.next) (h2 : ∀ j, j ≠ i -> s'.heap.get j = s.heap.get j) : Turns (.pointer (some ⟨i, o, c⟩)) s s' :=
 ⟨by omega, fun j _ hj => h2 j (fun e => hj (by rw [e]; rfl))⟩
theorem Stay.ofPut {s s' : ASt} {i base : Nat} (h1 : s'.next = s.next) (h2 : ∀ j, j ≠ i -> s'.heap.get j = s.heap.get j) (hb : base ≤ i) : Stay base s s' :=
 ⟨by omega, fun j hj => h2 j (by omega)⟩
theorem Own.ofPut {s s' : ASt} {i : Nat} (h1 : s'.next = s.next) (h2 : ∀ j, j ≠ i -> s'.heap.get j = s.heap.get j) {z : Nat} {v : Value} {n : Nat} {l : List Value} (h : Own s z v n l) (hne : idOf v ≠ some i) : Own s' z v n l :=
 h.turns (Turns.ofPut (o := 0) (c := none) h1 h2) (fun j hj e => hne (by rw [hj]; injection e with e; rw [← e]))
theorem Sees.ofPut {s s' : ASt} {i : Nat} (h1 : s'.next = s.next) (h2 : ∀ j, j ≠ i -> s'.heap.get j = s.heap.get j) {z : Nat} {v : Value} {n : Nat} {l : List Value} (h : Sees s z v n l) (hne : idOf v ≠ some i) : Sees s' z v n l := by
 cases h with
 | nil => exact .nil
 | bare => exact .bare _ _
 | of j off n c b l hi hb hz hl hc hlen hoff ht =>
  refine .of j off n c b l (by omega) ?_ hz hl hc hlen hoff ht
  simp only [ASt.blk?, h2 j (fun e => hne (by rw [e]; rfl))]; exact hb
theorem Own.put {P : Program} {e : TypeId} (hsz : sizeB P e = some 1) {s : ASt} {v : Value} {n : Nat} {l : List Value} (h : Own s 1 v n l) {k : Nat} (hk : k < n) {w : Value} (hw : okCell w = true) :
  ∃ s', storeA P s e (elemPtr 1 v k) w = some s' ∧ Own s' 1 v n (l.set k w) ∧ Turns v s s' := by
 cases h with
 | nil => omega
 | of i n low l hi hb hl hlen =>
  have hlen' : l.length = n := by omega
  have hth : Thing s i l := ⟨hi, low, 1, hb, hl⟩
  obtain ⟨s', h1, h2, h3, h4⟩ := hth.store hsz (off := k) (c := l.length + 1) rfl (by omega) hw
  have hb' : s'.blk? i = some ⟨l.set k w, l.length + 1, true, 1⟩ := by
   have hcells : w.cells.toList = [w] := by cases w <;> first | rfl | cases hw
   unfold storeA at h1
   simp only [hsz, hcells, List.length_singleton] at h1
   unfold ASt.storeAt at h1
   have hset : setAt l k [w] = some (l.set k w) := by
    rw [setAt_eq _ _ _ (by simp; omega)]
    rw [List.set_eq_take_append_cons_drop, if_pos (by omega)]
    simp
   have hcond : (true && Nat.ble low (l.length + 1) && Nat.beq (l.length + 1) (l.length + 1) && [w].all okCell) = true := by
    simp [hl, hw]
   simp only [hb, hcond, if_true, hset] at h1
   have h1' : some (s.put i (.blk ⟨l.set k w, l.length + 1, true, 1⟩)) = some s' := h1
   injection h1' with h1'
   rw [← h1']; exact ASt.blk?_put_self _ _ _ (by omega)
  refine ⟨s', ?_, ?_, ⟨by omega, fun j _ hj => h4 j (fun e => hj (by rw [e]; rfl))⟩⟩
  ·simpa [elemPtr] using h1
  ·have := Own.of (z := 1) i n (l.length + 1) (l.set k w) h2.lt hb' (by simp) (by simp [hlen])
   simpa using this
section
variable {P : Program} {lib : Prims} {all r : List Oper} {id : Nat} {f : AFr} {T : ASt} {d : Option Tmp} {Q : AFr -> ASt -> Prop}
end
theorem allW : type_of%
 (And.intro (And.intro (And.intro (And.intro (And.intro (And.intro (And.intro @wcode_skip @wcode_region) (And.intro @wcode_draw (And.intro @wdraw_true
 @wcode_seq))) (And.intro (And.intro @wthen_normal (And.intro @wthen_ret @wthen_exit)) (And.intro @wcode_cond (And.intro @wcond_bool @wif_true)))) (And.intro
 (And.intro (And.intro @wif_false (And.intro @wcode_block @wblk_normal)) (And.intro @wblk_ret (And.intro @wblk_exit @wcode_loop))) (And.intro (And.intro
 @wcode_exit (And.intro @wcode_scope @wcode_ret)) (And.intro @wops_nil (And.intro @wops_cons @wwant_true))))) (And.intro (And.intro (And.intro (And.intro
 @wput_some @wstep_val) (And.intro @wstep_val_none (And.intro @wstep_call @wcall_some))) (And.intro (And.intro @wcall_none (And.intro @wquiet_nil @wquiet_cons))
 (And.intro @wasks_true (And.intro @wasks_false_some @wwant_false_some)))) (And.intro (And.intro (And.intro @wwant_false_none (And.intro @wlook_val @wopsV_nil))
 (And.intro @wopsV_cons (And.intro @vwant_ite @vwant_false_some))) (And.intro (And.intro @vwant_false_none (And.intro @vlook_val @vstep_val)) (And.intro
 @vstep_val_none (And.intro @vstep_call @vcall_some)))))) (And.intro (And.intro (And.intro (And.intro (And.intro @vcall_none @quiet_call) (And.intro
 @quiet_buildSlice (And.intro @quiet_build @quiet_store))) (And.intro (And.intro @quiet_box (And.intro @quiet_alloc @quiet_makeSlice)) (And.intro @quiet_append
 (And.intro @quiet_copy @quiet_min)))) (And.intro (And.intro (And.intro @quiet_max (And.intro @alloc_buildSlice @alloc_store)) (And.intro @alloc_box (And.intro
 @alloc_alloc @alloc_makeSlice))) (And.intro (And.intro @alloc_call (And.intro @alloc_convert @alloc_move)) (And.intro @alloc_assign (And.intro @alloc_pick
 @alloc_load))))) (And.intro (And.intro (And.intro (And.intro @alloc_nilCheck (And.intro @alloc_binOp @alloc_unOp)) (And.intro @alloc_indexAddr (And.intro
 @alloc_index @alloc_fieldAddr))) (And.intro (And.intro @alloc_field (And.intro @alloc_slice @alloc_extract)) (And.intro @Bool.false_and (And.intro
 @Bool.and_false @wround_ret)))) (And.intro (And.intro (And.intro @wround_exit (And.intro @wres_some @resultsA_nil)) (And.intro @resultsA_tmp (And.intro @aop_move
 @aop_assign))) (And.intro (And.intro @aop_pick (And.intro @aop_alloc @aop_box)) (And.intro @aop_build (And.intro @aop_buildSlice @aop_load))))))) (And.intro
 (And.intro (And.intro (And.intro (And.intro (And.intro @aop_store @aop_nilCheck) (And.intro @aop_binOp (And.intro @aop_unOp @aop_convert))) (And.intro (And.intro
 @aop_makeMap (And.intro @aop_makeSlice @aop_slice)) (And.intro @aop_fieldAddr (And.intro @aop_field @aop_indexAddr)))) (And.intro (And.intro (And.intro
 @aop_index (And.intro @aop_lookup @aop_mapUpdate)) (And.intro @aop_extract (And.intro @aop_call_value @aop_call_builtin))) (And.intro (And.intro @wanted_none
 (And.intro @wanted_some @yieldA_eq)) (And.intro @yieldOf_cons (And.intro @get_put @n_put))))) (And.intro (And.intro (And.intro (And.intro @evalA_tmp @evalA_bool)
 (And.intro @evalA_int (And.intro @evalA_string @evalA_snil))) (And.intro (And.intro @evalA_pnil (And.intro @evalA_mnil @evalA_func)) (And.intro @cells_agg
 (And.intro @vOf_some @pOf_some)))) (And.intro (And.intro (And.intro @uOf_some (And.intro @builtin_len @builtin_append)) (And.intro @builtin_copy (And.intro
 @builtin_min @builtin_max))) (And.intro (And.intro @bin_add (And.intro @bin_sub @bin_mul)) (And.intro @bin_eql (And.intro @bin_neq @bin_lss)))))) (And.intro
 (And.intro (And.intro (And.intro (And.intro @bin_leq @bin_gtr) (And.intro @bin_geq (And.intro @un_not @un_neg))) (And.intro (And.intro @valEq_bool (And.intro
 @valEq_int @valEq_string)) (And.intro @valEq_pointer (And.intro @valEq_slice @valEq_elemPtr)))) (And.intro (And.intro (And.intro @valEq_cutS (And.intro
 @allQuiet_nil @allQuiet_cons)) (And.intro @quiet_move (And.intro @quiet_assign @quiet_pick))) (And.intro (And.intro @quiet_load (And.intro @quiet_binOp
 @quiet_unOp)) (And.intro @quiet_indexAddr (And.intro @quiet_index @quiet_len))))) (And.intro (And.intro (And.intro (And.intro @quiet_fieldAddr (And.intro
 @quiet_field @quiet_slice)) (And.intro @quiet_nilCheck (And.intro @quiet_extract @quiet_convert))) (And.intro (And.intro @natOf_none (And.intro @Nat.zero_add
 @true_and)) (And.intro @and_true (And.intro @and_self @Bool.and_true)))) (And.intro (And.intro (And.intro @Bool.true_and (And.intro @decide_true @decide_false))
 (And.intro @Bool.false_eq_true (And.intro @beq_true @beq_false))) (And.intro (And.intro @Bool.not_true (And.intro @Bool.not_false @Int.toNat_natCast)) (And.intro
 @Int.ofNat_lt (And.intro @Int.ofNat_le @Int.natCast_inj)))))))) :=
 (And.intro (And.intro (And.intro (And.intro (And.intro (And.intro (And.intro @wcode_skip @wcode_region) (And.intro @wcode_draw (And.intro @wdraw_true
 @wcode_seq))) (And.intro (And.intro @wthen_normal (And.intro @wthen_ret @wthen_exit)) (And.intro @wcode_cond (And.intro @wcond_bool @wif_true)))) (And.intro
 (And.intro (And.intro @wif_false (And.intro @wcode_block @wblk_normal)) (And.intro @wblk_ret (And.intro @wblk_exit @wcode_loop))) (And.intro (And.intro
 @wcode_exit (And.intro @wcode_scope @wcode_ret)) (And.intro @wops_nil (And.intro @wops_cons @wwant_true))))) (And.intro (And.intro (And.intro (And.intro
 @wput_some @wstep_val) (And.intro @wstep_val_none (And.intro @wstep_call @wcall_some))) (And.intro (And.intro @wcall_none (And.intro @wquiet_nil @wquiet_cons))
 (And.intro @wasks_true (And.intro @wasks_false_some @wwant_false_some)))) (And.intro (And.intro (And.intro @wwant_false_none (And.intro @wlook_val @wopsV_nil))
 (And.intro @wopsV_cons (And.intro @vwant_ite @vwant_false_some))) (And.intro (And.intro @vwant_false_none (And.intro @vlook_val @vstep_val)) (And.intro
 @vstep_val_none (And.intro @vstep_call @vcall_some)))))) (And.intro (And.intro (And.intro (And.intro (And.intro @vcall_none @quiet_call) (And.intro
 @quiet_buildSlice (And.intro @quiet_build @quiet_store))) (And.intro (And.intro @quiet_box (And.intro @quiet_alloc @quiet_makeSlice)) (And.intro @quiet_append
 (And.intro @quiet_copy @quiet_min)))) (And.intro (And.intro (And.intro @quiet_max (And.intro @alloc_buildSlice @alloc_store)) (And.intro @alloc_box (And.intro
 @alloc_alloc @alloc_makeSlice))) (And.intro (And.intro @alloc_call (And.intro @alloc_convert @alloc_move)) (And.intro @alloc_assign (And.intro @alloc_pick
 @alloc_load))))) (And.intro (And.intro (And.intro (And.intro @alloc_nilCheck (And.intro @alloc_binOp @alloc_unOp)) (And.intro @alloc_indexAddr (And.intro
 @alloc_index @alloc_fieldAddr))) (And.intro (And.intro @alloc_field (And.intro @alloc_slice @alloc_extract)) (And.intro @Bool.false_and (And.intro
 @Bool.and_false @wround_ret)))) (And.intro (And.intro (And.intro @wround_exit (And.intro @wres_some @resultsA_nil)) (And.intro @resultsA_tmp (And.intro @aop_move
 @aop_assign))) (And.intro (And.intro @aop_pick (And.intro @aop_alloc @aop_box)) (And.intro @aop_build (And.intro @aop_buildSlice @aop_load))))))) (And.intro
 (And.intro (And.intro (And.intro (And.intro (And.intro @aop_store @aop_nilCheck) (And.intro @aop_binOp (And.intro @aop_unOp @aop_convert))) (And.intro (And.intro
 @aop_makeMap (And.intro @aop_makeSlice @aop_slice)) (And.intro @aop_fieldAddr (And.intro @aop_field @aop_indexAddr)))) (And.intro (And.intro (And.intro
 @aop_index (And.intro @aop_lookup @aop_mapUpdate)) (And.intro @aop_extract (And.intro @aop_call_value @aop_call_builtin))) (And.intro (And.intro @wanted_none
 (And.intro @wanted_some @yieldA_eq)) (And.intro @yieldOf_cons (And.intro @get_put @n_put))))) (And.intro (And.intro (And.intro (And.intro @evalA_tmp @evalA_bool)
 (And.intro @evalA_int (And.intro @evalA_string @evalA_snil))) (And.intro (And.intro @evalA_pnil (And.intro @evalA_mnil @evalA_func)) (And.intro @cells_agg
 (And.intro @vOf_some @pOf_some)))) (And.intro (And.intro (And.intro @uOf_some (And.intro @builtin_len @builtin_append)) (And.intro @builtin_copy (And.intro
 @builtin_min @builtin_max))) (And.intro (And.intro @bin_add (And.intro @bin_sub @bin_mul)) (And.intro @bin_eql (And.intro @bin_neq @bin_lss)))))) (And.intro
 (And.intro (And.intro (And.intro (And.intro @bin_leq @bin_gtr) (And.intro @bin_geq (And.intro @un_not @un_neg))) (And.intro (And.intro @valEq_bool (And.intro
 @valEq_int @valEq_string)) (And.intro @valEq_pointer (And.intro @valEq_slice @valEq_elemPtr)))) (And.intro (And.intro (And.intro @valEq_cutS (And.intro
 @allQuiet_nil @allQuiet_cons)) (And.intro @quiet_move (And.intro @quiet_assign @quiet_pick))) (And.intro (And.intro @quiet_load (And.intro @quiet_binOp
 @quiet_unOp)) (And.intro @quiet_indexAddr (And.intro @quiet_index @quiet_len))))) (And.intro (And.intro (And.intro (And.intro @quiet_fieldAddr (And.intro
 @quiet_field @quiet_slice)) (And.intro @quiet_nilCheck (And.intro @quiet_extract @quiet_convert))) (And.intro (And.intro @natOf_none (And.intro @Nat.zero_add
 @true_and)) (And.intro @and_true (And.intro @and_self @Bool.and_true)))) (And.intro (And.intro (And.intro @Bool.true_and (And.intro @decide_true @decide_false))
 (And.intro @Bool.false_eq_true (And.intro @beq_true @beq_false))) (And.intro (And.intro @Bool.not_true (And.intro @Bool.not_false @Int.toNat_natCast)) (And.intro
 @Int.ofNat_lt (And.intro @Int.ofNat_le @Int.natCast_inj))))))))
theorem allR : type_of% (And.intro @cond_true.{1} (And.intro @cond_false.{1} (And.intro @List.drop_zero.{0} (And.intro @List.drop_succ_cons.{0} (And.intro @List.cons_append.{0} (And.intro @List.nil_append.{0} (And.intro @List.getD_cons_zero.{0} (And.intro @List.getD_cons_succ.{0} (And.intro @List.set_cons_zero.{0} (And.intro @List.set_cons_succ.{0} (And.intro @if_true.{1} (And.intro @if_false.{1} (And.intro @beq_self_eq_true.{0} (And.intro @ne_eq.{1} (And.intro @eq_self.{1} (And.intro @not_true_eq_false @not_false_eq_true)))))))))))))))) := (And.intro @cond_true.{1} (And.intro @cond_false.{1} (And.intro @List.drop_zero.{0} (And.intro @List.drop_succ_cons.{0} (And.intro @List.cons_append.{0} (And.intro @List.nil_append.{0} (And.intro @List.getD_cons_zero.{0} (And.intro @List.getD_cons_succ.{0} (And.intro @List.set_cons_zero.{0} (And.intro @List.set_cons_succ.{0} (And.intro @if_true.{1} (And.intro @if_false.{1} (And.intro @beq_self_eq_true.{0} (And.intro @ne_eq.{1} (And.intro @eq_self.{1} (And.intro @not_true_eq_false @not_false_eq_true))))))))))))))))
end Go.Cl