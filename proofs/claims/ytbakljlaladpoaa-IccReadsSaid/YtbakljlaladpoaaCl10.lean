/-
  The clean machine, part 10: any operation.
-/
import Derived.Test.YtbakljlaladpoaaCl9
namespace Go.Cl
open Go.RowKit

theorem run_v {P : Program} {w w' : World} {s : Sem Value} {v : Value} (h : s.run P w = .ok v w') : (do pure (Next.value (← s)) : Sem Next).run P w = .ok (.value v) w' := by
  simp [h]
theorem run_u {P : Program} {w w' : World} {s : Sem Unit} (h : s.run P w = .ok () w') : (do s; pure Next.skip : Sem Next).run P w = .ok .skip w' := by
  simp [h]

/-- An operation that only looks: what it comes to. -/
def Looks (P : Program) (S : St) (a : Act) (o : Oper) (s : ASt) (r : Option AR) : Prop :=
  ∀ x, r = some x → ∃ v, x = .val v s ∧ ∃ v', VR S v v' ∧ (execOp a.eval o).run P S.w = .ok (.value v') S.w

theorem looks_of {P : Program} {S : St} {a : Act} {o : Oper} {m : Sem Value} {r : Option Value} (he : execOp a.eval o = (do pure (Next.value (← m)))) (h : ∀ v, r = some v → Reads P S m v) : Looks P S a o S.s (vOf S.s r) := by
  intro x hx
  cases r with
  | none => simp [vOf] at hx
  | some v =>
    simp only [vOf] at hx
    obtain rfl := Option.some.inj hx
    obtain ⟨v', h1, h2⟩ := h v rfl
    exact ⟨v, rfl, v', h2, by rw [he]; exact run_v h1⟩
theorem looks_none {P : Program} {S : St} {a : Act} {o : Oper} : Looks P S a o S.s none := fun x hx => by cases hx

theorem map_get0 {x : Operand} {r : List Operand} (args : Array Operand) (ρ : Operand → Value) (h : args.toList = x :: r) : (args.map ρ)[0]? = some (ρ x) := by
  rw [← Array.getElem?_toList, Array.toList_map, h]; rfl
theorem toList_get0 {α : Type} {a : Array α} {x : α} {r : List α} (h : a.toList = x :: r) : a[0]? = some x := by rw [← Array.getElem?_toList, h]; rfl
theorem toList_get1 {α : Type} {a : Array α} {x y : α} {r : List α} (h : a.toList = x :: y :: r) : a[1]? = some y := by rw [← Array.getElem?_toList, h]; rfl

theorem exec_builtin {ρ : Operand → Value} {dst : Option Tmp} {ty : TypeId} {pos : String} {after : Array Edge} {guard : Option (Nat × Bool)} {b : Builtin} {args : Array Operand} {ts : Array TypeId} :
    execOp ρ ⟨dst, .call ⟨.builtin b, args, ts⟩, ty, pos, after, guard⟩ = builtin b ts ty (args.map fun | .const _ => true | _ => false) (args.map ρ) := rfl

theorem aop_quiet {P : Program} {base : Nat} {S : St} (h : SR base S) {f : AFr} {a : Act} (hf : FR S f a) {o : Oper} (hq : quietOp P o = true) : Looks P S a o S.s (aop P o f S.s) := by
  obtain ⟨dst, op, type, pos, after, guard⟩ := o
  cases op <;> try (simp [quietOp] at hq; done)
  case move x =>
    refine looks_of (m := pure (a.eval x)) (by simp [execOp]) (fun v hv => ⟨_, by simp, evalA_ok hf hv⟩)
  case assign x =>
    refine looks_of (m := pure (a.eval x)) (by simp [execOp]) (fun v hv => ⟨_, by simp, evalA_ok hf hv⟩)
  case pick c x y =>
    intro r hr
    simp only [aop] at hr
    split at hr
    · rename_i t u v h1 h2 h3
      obtain rfl := Option.some.inj hr
      have hc := evalA_ok hf h1
      have hx := evalA_ok hf h2
      have hy := evalA_ok hf h3
      generalize hcv : a.eval c = cv at hc
      cases hc
      refine ⟨_, rfl, if t then a.eval x else a.eval y, by cases t <;> assumption, ?_⟩
      simp [execOp, hcv, asBool]
    · cases hr
  case build t ps =>
    simp only [aop]
    split
    · rename_i l hl
      refine looks_of (m := Instr.build t (ps.map fun (i, x) => (i, a.eval x))) rfl (fun v hv => ?_)
      have := buildA_ok (P := P) (partsA_ok hf hl) hv
      have e : (ps.map fun (x : Nat × Operand) => (x.1, a.eval x.2)) = (ps.toList.map fun x => (x.1, a.eval x.2)).toArray := by rw [← Array.toList_inj]; simp
      rw [e]; exact this
    · exact looks_none
  case load t x =>
    simp only [aop]
    split
    · rename_i u hu
      exact looks_of rfl (fun v hv => loadA_ok h (evalA_ok hf hu) hv)
    · exact looks_none
  case nilCheck x =>
    intro r hr
    simp only [aop] at hr
    split at hr
    · rename_i p hp
      obtain rfl := Option.some.inj hr
      have hx := evalA_ok hf hp
      refine ⟨_, rfl, a.eval x, hx, ?_⟩
      generalize hcv : a.eval x = cv at hx
      cases hx <;> simp [execOp, hcv]
    · rename_i g as bs hp
      obtain rfl := Option.some.inj hr
      have hx := evalA_ok hf hp
      refine ⟨_, rfl, a.eval x, hx, ?_⟩
      generalize hcv : a.eval x = cv at hx
      cases hx
      simp [execOp, hcv]
    · cases hr
  case binOp op t x y yt =>
    simp only [aop]
    split
    · rename_i u v hu hv
      exact looks_of rfl (fun r hr => binA_ok (evalA_ok hf hu) (evalA_ok hf hv) hr)
    · exact looks_none
  case unOp op t x =>
    simp only [aop]
    split
    · rename_i u hu
      exact looks_of rfl (fun r hr => unA_ok (evalA_ok hf hu) hr)
    · exact looks_none
  case convert s d x =>
    simp only [aop]
    split
    · rename_i u hu
      intro r hr
      cases hc : convA P S.s s d u with
      | none => rw [hc] at hr; simp [pOf] at hr
      | some p =>
        obtain ⟨v, s'⟩ := p
        rw [hc] at hr
        simp only [pOf] at hr
        obtain rfl := Option.some.inj hr
        have hnq : isSliceD (P.underlying d) = false := by
          simp only [quietOp] at hq
          unfold isSliceD
          split at hq
          · cases hq
          · rename_i hns; split
            · rename_i e he; exact absurd he (hns e)
            · rfl
        obtain ⟨rfl, v', h1, h2⟩ := convA_look h (evalA_ok hf hu) hc hnq
        exact ⟨v, rfl, v', h2, run_v h1⟩
    · exact looks_none
  case makeFunc fn as bs =>
    intro r hr
    cases fn <;> simp only [aop] at hr <;> try (cases hr; done)
    rename_i g
    split at hr
    · rename_i l m h1 h2
      obtain rfl := Option.some.inj hr
      have hl := evalAll_ok hf h1
      have hm := evalAll_ok hf h2
      refine ⟨_, rfl, .func (.func g) (as.map a.eval) (bs.map a.eval), ?_, by simp [execOp, Instr.makeFunc]⟩
      refine .func g _ _ _ _ (by simpa using hl.1) (by simpa using hm.1) (fun i hi => ?_) (fun i hi => ?_)
      · simpa using hl.2 i (by simpa using hi)
      · simpa using hm.2 i (by simpa using hi)
    · cases hr
  case makeInterface t x =>
    intro r hr
    simp only [aop] at hr
    split at hr
    · cases hr
    · rename_i d v hni hd hv
      obtain rfl := Option.some.inj hr
      refine ⟨_, rfl, .iface t (a.eval x), .iface t _ _ (evalA_ok hf hv), ?_⟩
      cases d <;> first
        | exact absurd rfl (hni _)
        | simp [execOp, Instr.makeInterface, run_underlying hd]
    · cases hr
  case slice t x lo hi mx =>
    simp only [aop]
    split
    · rename_i u l h' m h1 h2 h3 h4
      refine looks_of rfl (fun r hr => sliceA_ok h (evalA_ok hf h1) ?_ ?_ ?_ hr)
      · rcases optA_ok hf h2 with ⟨q1, q2⟩ | ⟨v, v', q1, q2, q3⟩
        · exact .inl ⟨q1, q2⟩
        · exact .inr ⟨v, v', q1, q2, q3⟩
      · rcases optA_ok hf h3 with ⟨q1, q2⟩ | ⟨v, v', q1, q2, q3⟩
        · exact .inl ⟨q1, q2⟩
        · exact .inr ⟨v, v', q1, q2, q3⟩
      · rcases optA_ok hf h4 with ⟨q1, q2⟩ | ⟨v, v', q1, q2, q3⟩
        · exact .inl ⟨q1, q2⟩
        · exact .inr ⟨v, v', q1, q2, q3⟩
    · exact looks_none
  case fieldAddr t x i =>
    simp only [aop]
    split
    · rename_i u hu
      exact looks_of rfl (fun r hr => fieldAddrA_ok (evalA_ok hf hu) hr)
    · exact looks_none
  case field t x i =>
    simp only [aop]
    split
    · rename_i u hu
      exact looks_of rfl (fun r hr => fieldA_ok (evalA_ok hf hu) hr)
    · exact looks_none
  case indexAddr t x y =>
    simp only [aop]
    split
    · rename_i u v hu hv
      exact looks_of rfl (fun r hr => indexAddrA_ok (evalA_ok hf hu) (evalA_ok hf hv) hr)
    · exact looks_none
  case index t x y =>
    simp only [aop]
    split
    · rename_i u v hu hv
      exact looks_of rfl (fun r hr => indexA_ok (evalA_ok hf hu) (evalA_ok hf hv) hr)
    · exact looks_none
  case lookup t x y ok =>
    simp only [aop]
    split
    · rename_i u v hu hv
      exact looks_of rfl (fun r hr => lookupA_ok h (evalA_ok hf hu) (evalA_ok hf hv) hr)
    · exact looks_none
  case extract x i =>
    simp only [aop]
    split
    · rename_i u hu
      exact looks_of rfl (fun r hr => extractA_ok (evalA_ok hf hu) hr)
    · exact looks_none
  case call c =>
    obtain ⟨callee, args, ts⟩ := c
    simp only [aop]
    split
    case h_2 => exact looks_none
    rename_i l hl
    have hvl := evalAll_ok hf hl
    cases callee with
    | value x => simp [quietOp] at hq
    | invoke x m => simp [quietOp] at hq
    | builtin b =>
      simp only
      cases b <;> try (simp [quietOp] at hq; done)
      case len =>
        cases ht : ts.toList with
        | nil => exact looks_none
        | cons t tr =>
          cases l with
          | nil => exact looks_none
          | cons x xr =>
            obtain ⟨x', r', e, hx', _⟩ := hvl.cons_inv
            refine looks_of (m := Builtin.len_ ts type (args.map a.eval)) rfl (fun v hv => lenA_ok h hx' hv (toList_get0 ht) ?_)
            exact toList_get0 (by rw [Array.toList_map]; exact e)
      case min =>
        cases l with
        | nil => exact looks_none
        | cons x xr =>
          obtain ⟨x', r', e, hx', hr'⟩ := hvl.cons_inv
          refine looks_of (m := Builtin.min_ ts type (args.map a.eval)) rfl (fun v hv => ?_)
          obtain ⟨v', k1, k2⟩ := foldA_ok (P := P) minA Builtin.min2 minA_ok hx' hr' hv
          exact ⟨v', by simp only [Builtin.min_, Array.toList_map, e]; exact k1, k2⟩
      case max =>
        cases l with
        | nil => exact looks_none
        | cons x xr =>
          obtain ⟨x', r', e, hx', hr'⟩ := hvl.cons_inv
          refine looks_of (m := Builtin.max_ ts type (args.map a.eval)) rfl (fun v hv => ?_)
          obtain ⟨v', k1, k2⟩ := foldA_ok (P := P) maxA Builtin.max2 maxA_ok hx' hr' hv
          exact ⟨v', by simp only [Builtin.max_, Array.toList_map, e]; exact k1, k2⟩

theorem room_of_slice {s : ASt} {cs : List Value} {len esz : Nat} {r : Value × ASt} (h : newSlice s cs len esz = some r) : s.room = true := by
  unfold newSlice at h
  split at h
  · assumption
  · cases h
theorem room_of_ptr {s : ASt} {cs : List Value} {esz : Nat} {r : Value × ASt} (h : newPtr s cs esz = some r) : s.room = true := by
  unfold newPtr at h
  split at h
  · assumption
  · cases h
theorem room_of_build {P : Program} {s : ASt} {t : TypeId} {n : Nat} {ps : List (Nat × Value)} {r : Value × ASt} (h : buildSliceA P s t n ps = some r) : s.room = true := by
  unfold buildSliceA at h
  split at h
  · split at h
    · split at h
      · split at h
        · exact room_of_slice h
        · cases h
      · cases h
    · cases h
  · cases h
theorem room_of_make {P : Program} {s : ASt} {t : TypeId} {x y : Value} {r : Value × ASt} (h : makeSliceA P s t x y = some r) : s.room = true := by
  unfold makeSliceA at h
  split at h
  · split at h
    · split at h
      · exact room_of_slice h
      · cases h
    · cases h
  · cases h
theorem room_of_conv {P : Program} {s : ASt} {a b : TypeId} {x : Value} {r : Value × ASt} (h : convA P s a b x = some r) (ht : textConv P a b = true) : s.room = true := by
  unfold textConv at ht
  split at ht
  case h_2 => cases ht
  rename_i e0 hsq hdq
  unfold convA at h
  split at h
  · rename_i hs hd; rw [hdq] at hd; cases hd
  · rename_i hs hd; rw [hdq] at hd; cases hd
  · split at h
    · exact room_of_slice h
    · cases h
  · rename_i hs hd; rw [hsq] at hs; cases hs
  · rename_i hs hd; rw [hdq] at hd; cases hd
  · rename_i hs hd; rw [hdq] at hd; cases hd
  · cases h

/-- Any operation. -/
def Steps1 (P : Program) (base : Nat) (S : St) (a : Act) (o : Oper) : AR → Prop
  | .val v s' => ∃ T v', T.s = s' ∧ VR T v v' ∧ Good base S T ∧ ((execOp a.eval o).run P S.w = .ok (.value v') T.w ∨ ((execOp a.eval o).run P S.w = .ok .skip T.w ∧ v' = undef))
  | .call g args => ∃ args' : Array Value, VRL S args args'.toList ∧ execOp a.eval o = callFunc g args'

theorem steps_of {P : Program} {base : Nat} {S : St} {a : Act} {o : Oper} {m : Sem Value} {r : Option (Value × ASt)} (he : execOp a.eval o = (do pure (Next.value (← m)))) (h : ∀ v s', r = some (v, s') → Does P base S m v s') :
    ∀ x, pOf r = some x → Steps1 P base S a o x := by
  intro x hx
  cases r with
  | none => simp [pOf] at hx
  | some p =>
    obtain ⟨v, s'⟩ := p
    simp only [pOf] at hx
    obtain rfl := Option.some.inj hx
    obtain ⟨T, v', h1, h2, h3, h4⟩ := h v s' rfl
    exact ⟨T, v', h1, h3, h4, .inl (by rw [he]; exact run_v h2)⟩
theorem steps_ofU {P : Program} {base : Nat} {S : St} {a : Act} {o : Oper} {m : Sem Unit} {r : Option ASt} (he : execOp a.eval o = (do m; pure Next.skip)) (h : ∀ s', r = some s' → DoesU P base S m s') :
    ∀ x, uOf r = some x → Steps1 P base S a o x := by
  intro x hx
  cases r with
  | none => simp [uOf] at hx
  | some s' =>
    simp only [uOf] at hx
    obtain rfl := Option.some.inj hx
    obtain ⟨T, h1, h2, h3⟩ := h s' rfl
    exact ⟨T, undef, h1, VR.undef' T, h3, .inr ⟨by rw [he]; exact run_u h2, rfl⟩⟩

theorem storeA_ok {P : Program} {base : Nat} {S : St} (h : SR base S) {t : TypeId} {a v a' v' : Value} {s' : ASt} (ha : VR S a a') (hv : VR S v v') (hs : storeA P S.s t a v = some s') : DoesU P base S (Instr.storeAt t a' v') s' := by
  unfold storeA at hs
  split at hs
  · rename_i i off c hn
    obtain ⟨a1, rfl, hr⟩ := ha.ptr_inv
    split at hs
    · rename_i hlen
      obtain rfl := Option.some.inj hs
      have hlen' : v.cells.toList.length = 0 := by simpa [Nat.beq_eq] using hlen
      have hcv := hv.cells
      have hsz : v'.cells.size = 0 := by have := hcv.1; rw [hlen'] at this; simpa using this.symm
      have hnil : v'.cells.toList = [] := by simpa using hsz
      refine ⟨S, rfl, ?_, Good.refl h⟩
      simp [Instr.storeAt, Instr.sureAddr, storeVar, run_sizeOf hn, hsz]
      rw [hnil]
      rfl
    · cases hs
  · rename_i i off c n hne hn
    obtain ⟨a1, rfl, hr⟩ := ha.ptr_inv
    split at hs
    · rename_i hlen
      have hlen' : v.cells.toList.length = n := by simpa [Nat.beq_eq] using hlen
      unfold ASt.storeAt at hs
      split at hs
      · rename_i b hb
        split at hs
        · rename_i hc
          simp only [Bool.and_eq_true, Nat.ble_eq, Nat.beq_eq] at hc
          obtain ⟨⟨⟨hown, hlow⟩, hcur⟩, hok⟩ := hc
          split at hs
          · cases hs
          rename_i hnil
          split at hs
          · rename_i l hl
            obtain rfl := Option.some.inj hs
            have hlive : Live b c := ⟨hlow, by omega⟩
            obtain rfl := hr.addr hb hlive
            have hcv := hv.cells
            have hsz : v'.cells.size = n := by have := hcv.1; simp at this hlen'; omega
            have hokl := hcv.okCell hok
            obtain ⟨hg, arr, E, fr, h1, h2, h3⟩ := Good.store h hb hown hlive hcur hl hcv (by rw [hnil]; simp)
            refine ⟨_, rfl, ?_, hg⟩
            have := run_storeCells P (S.e.loc i c).1 ((S.e.loc i c).2 + off) v'.cells.toList S.w 0 arr E fr h1 h2 (by omega) hokl
            simp [Instr.storeAt, Instr.sureAddr, storeVar, run_sizeOf hn, hsz, this]
          · cases hs
        · cases hs
      · cases hs
    · cases hs
  · cases hs

theorem aop_ok {P : Program} {base : Nat} {S : St} (h : SR base S) {f : AFr} {a : Act} (hf : FR S f a) {o : Oper} : ∀ x, aop P o f S.s = some x → Steps1 P base S a o x := by
  by_cases hq : quietOp P o = true
  · intro x hx
    obtain ⟨v, rfl, v', h1, h2⟩ := aop_quiet h hf hq x hx
    exact ⟨S, v', rfl, h1, Good.refl h, .inl h2⟩
  obtain ⟨dst, op, type, pos, after, guard⟩ := o
  cases op <;> try (simp [quietOp] at hq; done)
  all_goals try (intro x hx; simp [aop] at hx; done)
  case alloc e =>
    simp only [aop]
    intro x hx
    split at hx
    · rename_i z hz
      split at hx
      · rename_i hp
        exact steps_of rfl (fun v s' hv => (alloc_at h (Spot.self h (room_of_ptr hv)) hz hp hv).does) x hx
      · cases hx
    · cases hx
  case box e y =>
    simp only [aop]
    intro x hx
    split at hx
    · rename_i u hu
      exact steps_of rfl (fun v s' hv => (box_at h (Spot.self h (room_of_ptr hv)) (evalA_ok hf hu) hv).does) x hx
    · cases hx
  case buildSlice t n ps =>
    simp only [aop]
    intro x hx
    split at hx
    · rename_i l hl
      refine steps_of (m := Instr.buildSlice t n (ps.map fun (i, x) => (i, a.eval x))) rfl (fun v s' hv => ?_) x hx
      have := (buildSliceA_at (P := P) h (Spot.self h (room_of_build hv)) (partsA_ok hf hl) hv).does
      have e : (ps.map fun (x : Nat × Operand) => (x.1, a.eval x.2)) = (ps.toList.map fun x => (x.1, a.eval x.2)).toArray := by rw [← Array.toList_inj]; simp
      rw [e]; exact this
    · cases hx
  case store t y z =>
    simp only [aop]
    intro x hx
    split at hx
    · rename_i u v hu hv
      exact steps_ofU rfl (fun s' hs => storeA_ok h (evalA_ok hf hu) (evalA_ok hf hv) hs) x hx
    · cases hx
  case convert s d y =>
    simp only [aop]
    intro x hx
    split at hx
    · rename_i u hu
      refine steps_of rfl (fun v s' hv => ?_) x hx
      cases htc : textConv P s d with
      | true => exact (textConv_at h (Spot.self h (room_of_conv hv htc)) (evalA_ok hf hu) hv htc).does
      | false =>
        refine convA_mark h (evalA_ok hf hu) hv ?_ htc
        simp only [quietOp] at hq
        unfold isSliceD
        split at hq
        · rename_i e he; rw [he]
        · exact absurd rfl hq
    · cases hx
  case makeMap t r =>
    cases r with
    | some _ => intro x hx; simp [aop] at hx
    | none =>
      simp only [aop]
      intro x hx
      split at hx
      · rename_i hr
        obtain rfl := Option.some.inj hx
        have hg := Good.newMap h hr
        have hlt := room_lt hr
        refine ⟨_, .map (some S.w.heap.size), rfl, ?_, hg, .inl (by simp [execOp, Instr.makeMap, newObj, Sem.run])⟩
        have := VR.map (S := ⟨S.s.new (.map []), ⟨S.e.loc, fun r => if r = S.s.next then S.w.heap.size else S.e.mp r⟩, S.w.alloc (.map #[] 0)⟩) S.s.next ⟨[], by simp only [ASt.new, ASt.map?, Tr.get_set_self _ _ _ _ (deep (show 0 < 16000001 by omega))]⟩
        simpa using this
      · cases hx
  case makeSlice t y z =>
    simp only [aop]
    intro x hx
    split at hx
    · rename_i u v hu hv
      exact steps_of rfl (fun r s' hr => (makeSliceA_at h (Spot.self h (room_of_make hr)) (evalA_ok hf hu) (evalA_ok hf hv) hr).does) x hx
    · cases hx
  case mapUpdate t y z u =>
    simp only [aop]
    intro x hx
    split at hx
    · rename_i m k v h1 h2 h3
      exact steps_ofU rfl (fun s' hs => mapUpdateA_ok h (evalA_ok hf h1) (evalA_ok hf h2) (evalA_ok hf h3) hs) x hx
    · cases hx
  case call c =>
    obtain ⟨callee, args, ts⟩ := c
    simp only [aop]
    intro x hx
    split at hx
    case h_2 => cases hx
    rename_i l hl
    have hvl := evalAll_ok hf hl
    cases callee with
    | invoke y m => cases hx
    | value y =>
      simp only at hx
      split at hx
      · rename_i g as bs hy
        obtain rfl := Option.some.inj hx
        obtain ⟨as', bs', e, h1, h2⟩ := (evalA_ok hf hy).func_inv
        refine ⟨as' ++ args.map a.eval ++ bs', ?_, ?_⟩
        · simp only [Array.toList_append, Array.toList_map]
          exact (h1.append hvl).append h2
        · simp [execOp, resolve, e, Deferred.ofValue, invoke]
      · cases hx
    | builtin b =>
      simp only at hx
      cases b <;> try (simp [quietOp] at hq; done)
      all_goals try (simp [builtinA] at hx; done)
      case append =>
        cases ht : ts.toList with
        | nil => rw [ht] at hx; cases hx
        | cons t tr =>
          cases tr with
          | nil => rw [ht] at hx; cases hx
          | cons t2 tr2 =>
            cases l with
            | nil => rw [ht] at hx; cases hx
            | cons y yr =>
              cases yr with
              | nil => rw [ht] at hx; cases hx
              | cons z zr =>
                rw [ht] at hx
                obtain ⟨y', r', e, hy', hr'⟩ := hvl.cons_inv
                obtain ⟨z', r2', e2, hz', _⟩ := hr'.cons_inv
                rw [e2] at e
                refine steps_of (m := Builtin.append_ ts type (args.map a.eval)) rfl (fun v s' hv => appendA_ok h hy' hz' hv (toList_get0 ht) (toList_get1 ht) ?_ ?_) x hx
                · exact toList_get0 (by rw [Array.toList_map]; exact e)
                · exact toList_get1 (by rw [Array.toList_map]; exact e)
      case clear =>
        cases ht : ts.toList with
        | nil => rw [ht] at hx; cases hx
        | cons t tr =>
          cases l with
          | nil => rw [ht] at hx; cases hx
          | cons y yr =>
            rw [ht] at hx
            obtain ⟨y', r', e, hy', _⟩ := hvl.cons_inv
            refine steps_of (m := Builtin.clear_ ts type (args.map a.eval)) rfl (fun v s' hv => clearA_ok h hy' hv (toList_get0 ht) ?_) x hx
            exact toList_get0 (by rw [Array.toList_map]; exact e)
      case copy =>
        cases ht : ts.toList with
        | nil => rw [ht] at hx; cases hx
        | cons t tr =>
            cases l with
            | nil => rw [ht] at hx; cases hx
            | cons y yr =>
              cases yr with
              | nil => rw [ht] at hx; cases hx
              | cons z zr =>
                rw [ht] at hx
                obtain ⟨y', r', e, hy', hr'⟩ := hvl.cons_inv
                obtain ⟨z', r2', e2, hz', _⟩ := hr'.cons_inv
                rw [e2] at e
                refine steps_of (m := Builtin.copy_ ts type (args.map a.eval)) rfl (fun v s' hv => copyA_ok h hy' hz' hv (toList_get0 ht) ?_ ?_) x hx
                · exact toList_get0 (by rw [Array.toList_map]; exact e)
                · exact toList_get1 (by rw [Array.toList_map]; exact e)

end Go.Cl
