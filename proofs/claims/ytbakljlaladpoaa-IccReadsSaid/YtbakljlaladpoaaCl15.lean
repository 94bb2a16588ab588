/-
  The clean machine, part 15: a statement whose order is open: what the trial says of each operation.
-/
import Derived.Test.YtbakljlaladpoaaCl10
import Derived.Test.YtbakljlaladpoaaCl14
namespace Go.Cl
open Go.RowKit

/-! What an operation sees. -/
theorem evalA_congr {f g : AFr} (hn : f.n = g.n) {x : Operand} (h : ∀ t : Nat, x = .tmp t → f.get t = g.get t) : evalA f x = evalA g x := by
  cases x with
  | tmp t => simp only [evalA, hn, h t rfl]
  | const v => rfl
  | global v => rfl
  | func v => rfl
theorem evalAll_congr {f g : AFr} : ∀ {l : List Operand}, (∀ x ∈ l, evalA f x = evalA g x) → evalAll f l = evalAll g l
  | [], _ => rfl
  | x :: r, h => by
    simp only [evalAll, h x (List.mem_cons_self ..), evalAll_congr (fun y hy => h y (List.mem_cons_of_mem _ hy))]
theorem partsA_congr {f g : AFr} : ∀ {l : List (Nat × Operand)}, (∀ x ∈ l, evalA f x.2 = evalA g x.2) → partsA f l = partsA g l
  | [], _ => rfl
  | x :: r, h => by
    obtain ⟨i, x⟩ := x
    simp only [partsA, h (i, x) (List.mem_cons_self ..), partsA_congr (fun y hy => h y (List.mem_cons_of_mem _ hy))]
theorem optA_congr {f g : AFr} {x : Option Operand} (h : ∀ y, x = some y → evalA f y = evalA g y) : optA f x = optA g x := by
  cases x with
  | none => rfl
  | some y => simp only [optA, h y rfl]
theorem aop_congr {P : Program} {o : Oper} {f g : AFr} (hn : f.n = g.n) (h : ∀ t : Nat, Operand.tmp t ∈ o.op.operands.toList → f.get t = g.get t) (s : ASt) : aop P o f s = aop P o g s := by
  have ev : ∀ x ∈ o.op.operands.toList, evalA f x = evalA g x := fun x hx => evalA_congr hn (fun t ht => h t (by rw [← ht]; exact hx))
  clear h
  obtain ⟨dst, op, type, pos, after, guard⟩ := o
  cases op <;> simp only [Op.operands] at ev
  case call c =>
    obtain ⟨callee, args, ts⟩ := c
    have ea : evalAll f args.toList = evalAll g args.toList := evalAll_congr (fun x hx => ev x (by simp only [Call.operands, Array.toList_append]; exact List.mem_append_right _ hx))
    cases callee with
    | value y => 
      have ey := ev y (by simp [Call.operands])
      simp only [aop, ea, ey]
    | builtin b => simp only [aop, ea]
    | invoke y m => simp only [aop, ea]
  case makeFunc fn first captured =>
    have e1 : evalAll f first.toList = evalAll g first.toList := evalAll_congr (fun x hx => ev x (by rw [Array.toList_append]; exact List.mem_append_left _ hx))
    have e2 : evalAll f captured.toList = evalAll g captured.toList := evalAll_congr (fun x hx => ev x (by rw [Array.toList_append]; exact List.mem_append_right _ hx))
    cases fn <;> simp only [aop, e1, e2]
  case build t ps =>
    have e1 : partsA f ps.toList = partsA g ps.toList := partsA_congr (fun x hx => ev x.2 (by simpa using ⟨x.1, by simpa using hx⟩))
    simp only [aop, e1]
  case buildSlice t n ps =>
    have e1 : partsA f ps.toList = partsA g ps.toList := partsA_congr (fun x hx => ev x.2 (by simpa using ⟨x.1, by simpa using hx⟩))
    simp only [aop, e1]
  case slice t x l hi m =>
    have e0 := ev x (by simp)
    have e1 : optA f l = optA g l := optA_congr (fun y hy => ev y (by simp [hy]))
    have e2 : optA f hi = optA g hi := optA_congr (fun y hy => ev y (by simp [hy]))
    have e3 : optA f m = optA g m := optA_congr (fun y hy => ev y (by simp [hy]))
    simp only [aop, e0, e1, e2, e3]
  all_goals first
    | rfl
    | (simp only [aop]; simp at ev; simp only [ev]; done)
    | (simp at ev; obtain ⟨e1, e2⟩ := ev; simp only [aop, e1, e2]; done)
    | (simp at ev; obtain ⟨e1, e2, e3⟩ := ev; simp only [aop, e1, e2, e3]; done)
    | (rename_i r; cases r <;> rfl)

theorem wantedA_congr {ops : List Oper} {o : Oper} {f g : AFr} (hn : f.n = g.n) (h : ∀ t : Nat, t ∈ seenBy ops o → f.get t = g.get t) : wantedA ops o f = wantedA ops o g := by
  unfold wantedA
  cases hg : o.guard with
  | none => rfl
  | some p =>
    obtain ⟨j, want⟩ := p
    have : yieldA ops f j = yieldA ops g j := by
      unfold yieldA
      cases hd : ops.drop j with
      | nil => rfl
      | cons p r =>
        simp only
        cases hpd : p.dst with
        | none => rfl
        | some d =>
          simp only [hn]
          rw [h d (by simp [seenBy, hg, hd, hpd])]
    simp only [this]

/-! A new block at a reserved place. -/
theorem alloc_ok {P : Program} {base : Nat} {S : St} (h : SR base S) {f : AFr} {a : Act} (hf : FR S f a) {o : Oper} (ha : allocOp P o = true) {id : Nat} (hsp : Spot S id S.s.next) {v : Value} {s1 : ASt} {b : Blk}
    (hx : aop P o f ⟨.nil, id⟩ = some (.val v s1)) (hb : s1.blk? id = some b) :
    ∃ T v', T.s = S.s.put id (.blk b) ∧ VR T v v' ∧ Good base S T ∧ (execOp a.eval o).run P S.w = .ok (.value v') T.w := by
  have hid : 0 < 16000001 := by have := hsp.lt; have := h.room; omega
  have fin : ∀ (m : Sem Value), execOp a.eval o = (do pure (Next.value (← m))) → DoesAt P base S m v ⟨.nil, id⟩ s1 S.s.next → ∃ T v', T.s = S.s.put id (.blk b) ∧ VR T v v' ∧ Good base S T ∧ (execOp a.eval o).run P S.w = .ok (.value v') T.w := by
    intro m he hd
    obtain ⟨b', e, T, v', h1, h2, h3, h4⟩ := hd
    have hb' : s1.blk? id = some b' := by rw [e]; simp only [ASt.blk?, ASt.new, Tr.get_set_self _ _ _ _ (deep hid)]
    rw [hb] at hb'
    obtain rfl := Option.some.inj hb'
    exact ⟨T, v', h1, h3, h4, by rw [he]; exact run_v h2⟩
  have pinv : ∀ r, pOf r = some (.val v s1) → r = some (v, s1) := by
    intro r hr
    cases r with
    | none => simp [pOf] at hr
    | some p =>
      obtain ⟨v2, s2⟩ := p
      simp only [pOf] at hr
      injection hr with hr; injection hr with e1 e2; rw [e1, e2]
  obtain ⟨dst, op, type, pos, after, guard⟩ := o
  cases op <;> try (cases ha; done)
  case alloc e =>
    simp only [aop] at hx
    split at hx
    · rename_i z hz
      split at hx
      · rename_i hp
        exact fin _ rfl (alloc_at h (s0 := ⟨.nil, id⟩) hsp hz hp (pinv _ hx))
      · cases hx
    · cases hx
  case box e y =>
    simp only [aop] at hx
    split at hx
    · rename_i u hu
      exact fin _ rfl (box_at h (s0 := ⟨.nil, id⟩) hsp (evalA_ok hf hu) (pinv _ hx))
    · cases hx
  case buildSlice t n ps =>
    simp only [aop] at hx
    split at hx
    · rename_i l hl
      have hbs : buildSliceA P ⟨.nil, id⟩ t n l = some (v, s1) := pinv _ hx
      have := buildSliceA_at (P := P) h (s0 := ⟨.nil, id⟩) (next := S.s.next) hsp (partsA_ok hf hl) hbs
      have e : (ps.map fun (x : Nat × Operand) => (x.1, a.eval x.2)) = (ps.toList.map fun x => (x.1, a.eval x.2)).toArray := by rw [← Array.toList_inj]; simp
      refine fin (Instr.buildSlice t n (ps.map fun (i, x) => (i, a.eval x))) (by simp only [execOp]) ?_
      rw [e]; exact this
    · cases hx
  case convert s d y =>
    simp only [aop] at hx
    simp only [allocOp] at ha
    split at hx
    · rename_i u hu
      exact fin _ rfl (textConv_at h (s0 := ⟨.nil, id⟩) hsp (evalA_ok hf hu) (pinv _ hx) ha)
    · cases hx
  case makeSlice t y z =>
    simp only [aop] at hx
    split at hx
    · rename_i u w hu hw
      exact fin (Instr.makeSlice t (a.eval y) (a.eval z)) rfl (makeSliceA_at h (s0 := ⟨.nil, id⟩) hsp (evalA_ok hf hu) (evalA_ok hf hw) (pinv _ hx))
    · cases hx

/-! Masks. -/
theorem maskOf_inv {acc : List Nat} : ∀ {l : List Edge} {m x : Nat}, Nat.testBit (maskOf acc l m) x = true → Nat.testBit m x = true ∨ ∃ e ∈ l, Region.binds .any e = true ∧ (x = e.on ∨ Nat.testBit (nth0 acc e.on) x = true)
  | [], _, _, h => .inl h
  | e :: r, m, x, h => by
    simp only [maskOf] at h
    rcases maskOf_inv h with h1 | ⟨e', h1, h2⟩
    · split at h1
      · rename_i hb
        simp only [Nat.testBit_or, Bool.or_eq_true, Nat.testBit_two_pow, decide_eq_true_eq] at h1
        rcases h1 with (h1 | h1) | h1
        · exact .inl h1
        · exact .inr ⟨e, List.mem_cons_self .., hb, .inl h1.symm⟩
        · exact .inr ⟨e, List.mem_cons_self .., hb, .inr h1⟩
      · exact .inl h1
    · exact .inr ⟨e', List.mem_cons_of_mem _ h1, h2⟩
theorem nth0_append (l m : List Nat) : ∀ i, i < l.length → nth0 (l ++ m) i = nth0 l i := by
  induction l with
  | nil => intro i h; simp at h
  | cons x r ih =>
    intro i h
    cases i with
    | zero => rfl
    | succ k => exact ih k (by simpa using h)
theorem nth0_at (l : List Nat) (x : Nat) (m : List Nat) : nth0 (l ++ x :: m) l.length = x := by
  induction l with
  | nil => rfl
  | cons _ r ih => exact ih
theorem masks_pre : ∀ (ops : List Oper) (acc : List Nat), ∃ r, masks ops acc = acc ++ r ∧ r.length = ops.length
  | [], acc => ⟨[], by simp [masks], rfl⟩
  | o :: ops, acc => by
    obtain ⟨r, h1, h2⟩ := masks_pre ops (acc ++ [maskOf acc o.after.toList 0])
    exact ⟨maskOf acc o.after.toList 0 :: r, by simp [masks, h1], by simp [h2]⟩
theorem masks_spec : ∀ (ops : List Oper) (acc : List Nat) (k : Nat) (o : Oper), ops[k]? = some o → ∃ acc', (∀ j, j < acc.length + k → nth0 acc' j = nth0 (masks ops acc) j) ∧ nth0 (masks ops acc) (acc.length + k) = maskOf acc' o.after.toList 0
  | [], _, _, _, h => by simp at h
  | p :: ops, acc, 0, o, h => by
    simp only [List.getElem?_cons_zero, Option.some.injEq] at h
    subst h
    obtain ⟨r, h1, h2⟩ := masks_pre ops (acc ++ [maskOf acc p.after.toList 0])
    refine ⟨acc, fun j hj => ?_, ?_⟩
    · simp only [masks, h1, List.append_assoc]
      rw [nth0_append _ _ _ (by simpa using hj)]
    · simp only [masks, h1, List.append_assoc, Nat.add_zero]
      exact nth0_at _ _ _
  | p :: ops, acc, k + 1, o, h => by
    simp only [List.getElem?_cons_succ] at h
    obtain ⟨acc', h1, h2⟩ := masks_spec ops (acc ++ [maskOf acc p.after.toList 0]) k o h
    simp only [List.length_append, List.length_singleton] at h1 h2
    refine ⟨acc', fun j hj => ?_, ?_⟩
    · simp only [masks]; exact h1 j (by omega)
    · simp only [masks]; rw [← h2]; congr 1; omega
theorem nth0_get {l : List Nat} {k m : Nat} (h : l[k]? = some m) : nth0 l k = m := by
  induction l generalizing k with
  | nil => simp at h
  | cons x r ih =>
    cases k with
    | zero => simpa [nth0] using h
    | succ k => exact ih (by simpa using h)

/-! What the trial came to. -/
theorem allocs_take : ∀ (ops : List Oper) {P : Program} (k k' : Nat) {o : Oper}, ops[k]? = some o → allocOp P o = true → k < k' → allocs P (ops.take k) < allocs P (ops.take k')
  | [], _, _, _, _, h, _, _ => by simp at h
  | p :: ops, P, 0, k' + 1, o, h, ha, _ => by
    simp only [List.getElem?_cons_zero, Option.some.injEq] at h
    subst h
    simp [allocs, ha]
  | p :: ops, P, k + 1, k' + 1, o, h, ha, hk => by
    simp only [List.getElem?_cons_succ] at h
    have := allocs_take ops k k' h ha (by omega)
    simp only [List.take_succ_cons, allocs]
    split <;> omega
  | _ :: _, _, _, 0, _, _, _, h => by omega

theorem countP_none {P : Program} {p : Nat → Bool} : ∀ (ops : List Oper) (i : Nat), (∀ j, i ≤ j → p j = false) → countP p P ops i = 0
  | [], _, _ => rfl
  | o :: r, i, h => by simp only [countP, h i (Nat.le_refl _), Bool.and_false, Bool.false_eq_true, if_false]; exact countP_none r (i + 1) (fun j hj => h j (by omega))
theorem countP_mono {P : Program} {p q : Nat → Bool} : ∀ (ops : List Oper) (i : Nat), (∀ k o, ops[k]? = some o → effectOp P o = true → p (i + k) = true → q (i + k) = true) → countP p P ops i ≤ countP q P ops i
  | [], _, _ => Nat.le_refl _
  | o :: r, i, h => by
    have ih := countP_mono (p := p) (q := q) r (i + 1) (fun k o ho he hp => by have := h (k + 1) o (by simpa using ho) he (by rw [show i + (k + 1) = i + 1 + k by omega]; exact hp); rwa [show i + (k + 1) = i + 1 + k by omega] at this)
    have h0 := h 0 o rfl
    simp only [countP]
    cases he : effectOp P o with
    | false => simpa [he] using ih
    | true =>
      cases hp : p i with
      | false => simp only [Bool.true_and, Bool.false_eq_true, if_false]; split <;> omega
      | true =>
        have := h0 he hp
        simp only [Nat.add_zero] at this
        simp [this]; exact ih

theorem putD_n {f f' : AFr} {d : Option Tmp} {v : Value} (h : putD f d v = some f') : f'.n = f.n := by
  unfold putD at h
  split at h
  · split at h
    · injection h with h; subst h; rfl
    · cases h
  · injection h with h; subst h; rfl

def Ev.after (e : Ev) (T : ASt) : ASt :=
  match e with
  | .eff _ s => s
  | _ => T
def Ev.more (e : Ev) (i : Nat) (as : Made) : Made :=
  match e with
  | .made _ d b => as ++ [(i, d, b)]
  | _ => as
theorem blt_false {i j : Nat} (h : i ≤ j) : Nat.blt j i = false := by
  cases hb : Nat.blt j i
  · rfl
  · rw [Nat.blt_eq] at hb; omega
theorem drawOps_spec {P : Program} {call : Call} {all : List Oper} : ∀ (ops : List Oper) (ms : List Nat) (i id : Nat) (f : AFr) (T : ASt) (as : Made) (es : List Ev), ms.length = ops.length → drawOps P call all ms ops i id f T as = some es →
    es.length = ops.length ∧ ∃ (F : Nat → AFr) (G : Nat → ASt), F 0 = f ∧ G 0 = T ∧ framesOf ops es f = F ops.length ∧
      (∀ p, p ≤ ops.length → (stagesOf P ops es T)[countP (fun j => Nat.blt j (i + p)) P ops i]? = some (G p)) ∧ (∀ d, (stagesOf P ops es T).getLastD d = G ops.length) ∧
      ∀ k o, ops[k]? = some o → ∃ e, es[k]? = some e ∧ drawOp P call all (nth0 ms k) (id + allocs P (ops.take k)) (as ++ madeOf (es.take k) i) o (F k) (G k) = some e ∧
        putD (F k) o.dst e.val = some (F (k + 1)) ∧ G (k + 1) = e.after (G k) := by
  intro ops
  induction ops with
  | nil =>
    intro ms i id f T as es hl hd
    cases ms with
    | cons _ _ => simp at hl
    | nil =>
      simp only [drawOps] at hd
      injection hd with hd; subst hd
      exact ⟨rfl, fun _ => f, fun _ => T, rfl, rfl, rfl, fun p hp => rfl, fun d => rfl, fun k o h => by simp at h⟩
  | cons o ops ih =>
    intro ms i id f T as es hl hd
    cases ms with
    | nil => simp at hl
    | cons m ms =>
      simp only [drawOps] at hd
      split at hd
      · rename_i e he
        split at hd
        · rename_i f' hp
          split at hd
          · rename_i es1 hd1
            injection hd with hd; subst hd
            obtain ⟨h1, F, G, h2, h3, h4, h5, h6, h7⟩ := ih ms (i + 1) _ f' (e.after T) _ es1 (by simpa using hl) hd1
            have heff : ∀ v s, e = .eff v s → effectOp P o = true := by
              intro v s hee
              subst hee
              unfold drawOp at he
              split at he
              · cases he
              · split at he
                · split at he <;> cases he
                · split at he
                  · split at he <;> cases he
                  · cases he
                · rename_i hq ha; simp [effectOp, hq, ha]
            refine ⟨by simp [h1], fun k => match k with | 0 => f | k + 1 => F k, fun k => match k with | 0 => T | k + 1 => G k, rfl, rfl, ?_, ?_, ?_, ?_⟩
            · simp only [framesOf, hp, List.length_cons]; exact h4
            · intro p hp'
              have hst : stagesOf P (o :: ops) (e :: es1) T = if effectOp P o then T :: stagesOf P ops es1 (e.after T) else stagesOf P ops es1 (e.after T) := by
                cases e with
                | eff v s => simp only [stagesOf, heff v s rfl, if_true]; rfl
                | skip => rfl
                | quiet _ => rfl
                | made _ _ _ => rfl
              cases p with
              | zero =>
                have h0 := countP_none (P := P) (p := fun j => Nat.blt j (i + 0)) (o :: ops) i (fun j hj => blt_false (by omega))
                rw [h0, hst]
                split
                · rfl
                · have e0 : (e.after T) = T := by
                    rename_i hne
                    cases e <;> try rfl
                    exact absurd (heff _ _ rfl) hne
                  have := h5 0 (Nat.zero_le _)
                  rw [countP_none (P := P) (p := fun j => Nat.blt j (i + 1 + 0)) ops (i + 1) (fun j hj => blt_false (by omega))] at this
                  rw [this, h3, e0]
              | succ p =>
                have := h5 p (by simpa using hp')
                have hc : countP (fun j => Nat.blt j (i + (p + 1))) P (o :: ops) i = if effectOp P o then countP (fun j => Nat.blt j (i + 1 + p)) P ops (i + 1) + 1 else countP (fun j => Nat.blt j (i + 1 + p)) P ops (i + 1) := by
                  have e1 : (fun j => Nat.blt j (i + (p + 1))) = fun j => Nat.blt j (i + 1 + p) := by rw [show i + (p + 1) = i + 1 + p by omega]
                  rw [e1]
                  simp only [countP]
                  have : Nat.blt i (i + 1 + p) = true := by simp [Nat.blt_eq]; omega
                  simp only [this, Bool.and_true]
                rw [hc, hst]
                split
                · simp only [List.getElem?_cons_succ]; exact this
                · exact this
            · intro d
              simp only [List.length_cons]
              rw [← h6 d]
              have hne : stagesOf P ops es1 (e.after T) ≠ [] := by
                intro hn
                have := h5 0 (Nat.zero_le _)
                rw [hn] at this; simp at this
              have hl2 : ∀ x : ASt, (x :: stagesOf P ops es1 (e.after T)).getLastD d = (stagesOf P ops es1 (e.after T)).getLastD d := by
                intro x
                rw [List.getLastD_cons]
                generalize stagesOf P ops es1 (e.after T) = l at hne
                cases l with
                | nil => exact absurd rfl hne
                | cons y r => rw [List.getLastD_cons, List.getLastD_cons]
              simp only [stagesOf]
              cases e <;> simp only at hl2 ⊢ <;> first
                | exact hl2 T
                | (split
                   · exact hl2 T
                   · rfl)
            · intro k o' hk
              cases k with
              | zero =>
                simp only [List.getElem?_cons_zero, Option.some.injEq] at hk
                subst hk
                exact ⟨e, rfl, by simpa [nth0, allocs, madeOf] using he, by simpa [h2] using hp, by simpa using h3⟩
              | succ k =>
                simp only [List.getElem?_cons_succ] at hk
                obtain ⟨e', k1, k2, k3, k4⟩ := h7 k o' hk
                refine ⟨e', by simpa using k1, ?_, k3, k4⟩
                have ea : (if allocOp P o then id + 1 else id) + allocs P (ops.take k) = id + allocs P ((o :: ops).take (k + 1)) := by
                  simp only [List.take_succ_cons, allocs]; split <;> omega
                have em : e.more i as ++ madeOf (es1.take k) (i + 1) = as ++ madeOf ((e :: es1).take (k + 1)) i := by
                  simp only [List.take_succ_cons]
                  cases e <;> simp [madeOf, Ev.more]
                rw [← ea, ← em]
                exact k2
          · cases hd
        · cases hd
      · cases hd

theorem checkAll_spec {P : Program} {all : List Oper} {ms : List Nat} {as : Made} {sts : List ASt} : ∀ (k : Nat) (mr : List Nat) (ops : List Oper) (es : List Ev) (i : Nat) (F : Nat → AFr), mr.length = ops.length → checkAll P all ms as sts mr ops es i (F 0) = true →
    (∀ k o e, ops[k]? = some o → es[k]? = some e → putD (F k) o.dst e.val = some (F (k + 1))) → ∀ o v, ops[k]? = some o → es[k]? = some (.quiet v) →
    sameAt P (nth0 mr k) as o (F k) v ((sts.take (countP (fun j => !Nat.testBit (nth0 ms j) (i + k)) P all 0 + 1)).drop (countP (Nat.testBit (nth0 mr k)) P all 0)) = true := by
  intro k
  induction k with
  | zero =>
    intro mr ops es i F hl h hF o v ho he
    cases ops with
    | nil => simp at ho
    | cons p ops =>
      cases mr with
      | nil => simp at hl
      | cons m mr =>
        cases es with
        | nil => simp at he
        | cons e es =>
          simp only [List.getElem?_cons_zero, Option.some.injEq] at ho he
          subst ho; subst he
          simp only [checkAll, Bool.and_eq_true] at h
          exact h.1
  | succ k ih =>
    intro mr ops es i F hl h hF o v ho he
    cases ops with
    | nil => simp at ho
    | cons p ops =>
      cases mr with
      | nil => simp at hl
      | cons m mr =>
        cases es with
        | nil => simp at he
        | cons e es =>
          have h0 := hF 0 p e rfl rfl
          simp only [checkAll, Bool.and_eq_true, h0] at h
          have := ih mr ops es (i + 1) (fun k => F (k + 1)) (by simpa using hl) h.2 (fun k o e ho he => hF (k + 1) o e (by simpa using ho) (by simpa using he)) o v (by simpa using ho) (by simpa using he)
          rw [show i + 1 + k = i + (k + 1) by omega] at this
          exact this

theorem sameAt_mem {P : Program} {m : Nat} {as : Made} {o : Oper} {f : AFr} {v : Value} : ∀ {l : List ASt} {T : ASt}, sameAt P m as o f v l = true → T ∈ l → ∃ u t, aop P o f (fill (Nat.testBit m) T as) = some (.val u t) ∧ valEq v u = true
  | [], _, _, h => by cases h
  | s :: r, T, h, hT => by
    simp only [sameAt] at h
    split at h
    · rename_i u t hop
      rw [Bool.and_eq_true] at h
      rcases List.mem_cons.1 hT with rfl | hT
      · exact ⟨u, t, hop, h.1⟩
      · exact sameAt_mem h.2 hT
    · cases h

theorem valEq1_ok {a b : Value} (h : valEq1 a b = true) : a = b := by
  cases a <;> cases b <;> simp only [valEq1] at h <;> try (cases h; done)
  all_goals try rfl
  case bool a b => simpa using h
  case int k a k' b =>
    rw [Bool.and_eq_true] at h
    obtain ⟨h1, h2⟩ := h
    split at h1
    · rename_i e; subst e; rw [beq_iff_eq] at h2; rw [h2]
    · cases h1
  case string a b =>
    rw [beq_iff_eq] at h
    obtain ⟨⟨a⟩⟩ := a
    obtain ⟨⟨b⟩⟩ := b
    simp only at h
    rw [h]
  case pointer a b => split at h <;> first | (rename_i e; rw [e]) | cases h
  case map a b => split at h <;> first | (rename_i e; rw [e]) | cases h
  case slice a n c b m d =>
    simp only [Bool.and_eq_true] at h
    obtain ⟨⟨h1, h2⟩, h3⟩ := h
    split at h1
    · rename_i e; rw [e, Nat.eq_of_beq_eq_true h2, Nat.eq_of_beq_eq_true h3]
    · cases h1
theorem valEqL_ok : ∀ {a b : List Value}, valEqL a b = true → a = b
  | [], [], _ => rfl
  | x :: r, y :: q, h => by
    simp only [valEqL, Bool.and_eq_true] at h
    rw [valEq1_ok h.1, valEqL_ok h.2]
  | [], _ :: _, h => by cases h
  | _ :: _, [], h => by cases h
theorem valEq2_ok {a b : Value} (h : valEq2 a b = true) : a = b := by
  unfold valEq2 at h
  split at h
  · rw [Array.toList_inj.1 (valEqL_ok h)]
  · exact valEq1_ok h
theorem valEqM_ok : ∀ {a b : List Value}, valEqM a b = true → a = b
  | [], [], _ => rfl
  | a :: r, b :: q, h => by
    simp only [valEqM, Bool.and_eq_true] at h
    rw [valEq2_ok h.1, valEqM_ok h.2]
  | [], _ :: _, h => by simp [valEqM] at h
  | _ :: _, [], h => by simp [valEqM] at h
theorem valEq_ok {a b : Value} (h : valEq a b = true) : a = b := by
  unfold valEq at h
  split at h
  · rw [Array.toList_inj.1 (valEqL_ok h)]
  · rw [Array.toList_inj.1 (valEqM_ok h)]
  · simp only [Bool.and_eq_true] at h
    obtain ⟨⟨h1, h2⟩, h3⟩ := h
    have h1' := Nat.eq_of_beq_eq_true h1
    rw [Array.toList_inj.1 (valEqL_ok h2), Array.toList_inj.1 (valEqL_ok h3)]
    exact congrArg (fun x => Value.func (Fn.func x) _ _) h1'
  · exact valEq1_ok h

end Go.Cl
