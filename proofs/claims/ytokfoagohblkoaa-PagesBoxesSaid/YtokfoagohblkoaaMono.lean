/-
  The clean machine, part 23: more fuel turns no answer; a closed call, evaluated once, answers alike beside whatever lies there.
-/
import Derived.Test.YtokfoagohblkoaaMem
namespace Go.Cl
abbrev CallLe (c1 c2 : FuncId → List Value → ASt → Option (Value × ASt)) : Prop := ∀ g a s r, c1 g a s = some r → c2 g a s = some r
theorem runOps_mono {P : Program} {c1 c2 : FuncId → List Value → ASt → Option (Value × ASt)} (h : CallLe c1 c2) (all : List Oper) : ∀ (l : List Oper) (f : AFr) (s : ASt) (r : AFr × ASt), runOps P c1 all l f s = some r → runOps P c2 all l f s = some r := by
  intro l
  induction l with
  | nil => intro f s r hr; exact hr
  | cons o l ih =>
    intro f s r hr
    simp only [runOps] at hr ⊢
    split at hr
    · rename_i hw
      rw [if_pos hw]
      split at hr
      · rename_i v s1 hop
        split at hr
        · rename_i f1 hp; exact ih _ _ _ hr
        · cases hr
      · rename_i g args hop
        split at hr
        · rename_i v s1 hc
          split at hr
          · rename_i f1 hp; simp only [h _ _ _ _ hc, hp]; exact ih _ _ _ hr
          · cases hr
        · cases hr
      · cases hr
    · rename_i hw
      rw [if_neg hw]
      split at hr
      · rename_i f1 hp; exact ih _ _ _ hr
      · cases hr
theorem drawOp_mono {P : Program} {c1 c2 : FuncId → List Value → ASt → Option (Value × ASt)} (h : CallLe c1 c2) {all : List Oper} {m id : Nat} {as : List (Nat × Nat × Blk)} {o : Oper} {f : AFr} {T : ASt} {e : Ev} (hd : drawOp P c1 all m id as o f T = some e) : drawOp P c2 all m id as o f T = some e := by
  unfold drawOp at *
  split at hd
  · exact hd
  · split at hd
    · exact hd
    · exact hd
    · split at hd
      · exact hd
      · rename_i g args h1
        split at hd
        · rename_i v s1 hc; simp only [h _ _ _ _ hc]; exact hd
        · cases hd
      · cases hd
theorem drawOps_mono {P : Program} {c1 c2 : FuncId → List Value → ASt → Option (Value × ASt)} (h : CallLe c1 c2) (all : List Oper) : ∀ (l : List Oper) (ms : List Nat) (i id : Nat) (f : AFr) (T : ASt) (as : List (Nat × Nat × Blk)) (es : List Ev), drawOps P c1 all ms l i id f T as = some es → drawOps P c2 all ms l i id f T as = some es := by
  intro l
  induction l with
  | nil => intro ms i id f T as es hd; cases ms <;> exact hd
  | cons o l ih =>
    intro ms i id f T as es hd
    cases ms with
    | nil => exact hd
    | cons m ms =>
      simp only [drawOps] at hd ⊢
      split at hd
      · rename_i e he
        split at hd
        · rename_i f1 hp
          split at hd
          · rename_i es1 h1; simp only [drawOp_mono h he, hp, ih _ _ _ _ _ _ _ h1]; exact hd
          · cases hd
        · cases hd
      · cases hd
theorem drawRun_mono {P : Program} {c1 c2 : FuncId → List Value → ASt → Option (Value × ASt)} (h : CallLe c1 c2) {ops : List Oper} {f : AFr} {s : ASt} {r : AFr × ASt} (hd : drawRun P c1 ops f s = some r) : drawRun P c2 ops f s = some r := by
  unfold drawRun at *
  split at hd
  · cases hd
  · split at hd
    · rename_i es he; simp only [drawOps_mono h _ _ _ _ _ _ _ _ _ he]; exact hd
    · cases hd
abbrev ExLe (e1 e2 : Code → AFr → ASt → Out) : Prop := ∀ c f s r, e1 c f s = some r → e2 c f s = some r
theorem callStep_mono {P : Program} {lib : Prims} {e1 e2 : Code → AFr → ASt → Out} (h : ExLe e1 e2) : CallLe (callStep P lib e1) (callStep P lib e2) := by
  intro g a s r hc
  unfold callStep at *
  split at hc
  · exact hc
  · split at hc
    · rename_i fn hf
      split at hc
      · rename_i c hb hn
        split at hc
        · rename_i f1 s1 he; simp only [h _ _ _ _ he]; exact hc
        · rename_i f1 s1 he; simp only [h _ _ _ _ he]; exact hc
        · cases hc
      · cases hc
    · cases hc
theorem step_mono {P : Program} {lib : Prims} {e1 e2 : Code → AFr → ASt → Out} (h : ExLe e1 e2) : ExLe (step P lib e1) (step P lib e2) := by
  intro c f s r hr
  cases c with
  | region id ops d =>
    simp only [step] at hr ⊢
    cases d with
    | false =>
      simp only at hr ⊢
      split at hr
      · rename_i h1; simp only [runOps_mono (callStep_mono h) _ _ _ _ _ h1]; exact hr
      · cases hr
    | true =>
      simp only at hr ⊢
      split at hr
      · rename_i h1; simp only [drawRun_mono (callStep_mono h) h1]; exact hr
      · cases hr
  | seq a b =>
    simp only [step] at hr ⊢
    split at hr
    · rename_i f1 s1 h1; simp only [h _ _ _ _ h1]; exact h _ _ _ _ hr
    · rename_i h1
      have := h _ _ _ _ hr
      rw [this]
      cases r with
      | mk x r =>
        cases x with
        | normal => exact absurd hr (h1 _ _)
        | exit => rfl
        | ret => rfl
  | cond x a b =>
    simp only [step] at hr ⊢
    split at hr
    · rename_i t ht
      split at hr
      · exact h _ _ _ _ hr
      · exact h _ _ _ _ hr
    · cases hr
  | block id a =>
    simp only [step] at hr ⊢
    split at hr
    · rename_i j f1 s1 h1; simp only [h _ _ _ _ h1]; exact hr
    · rename_i h1
      have := h _ _ _ _ hr
      rw [this]
      cases r with
      | mk x r =>
        cases x with
        | normal => rfl
        | exit => exact absurd hr (h1 _ _ _)
        | ret => rfl
  | loop a =>
    simp only [step] at hr ⊢
    split at hr
    · rename_i f1 s1 h1; simp only [h _ _ _ _ h1]; exact h _ _ _ _ hr
    · rename_i h1
      have := h _ _ _ _ hr
      rw [this]
      cases r with
      | mk x r =>
        cases x with
        | normal => exact absurd hr (h1 _ _)
        | exit => rfl
        | ret => rfl
  | scope a => simp only [step] at hr ⊢; exact h _ _ _ _ hr
  | skip => exact hr
  | label l => exact hr
  | exit id => exact hr
  | ret => exact hr
  | rangeFunc => simp [step] at hr
  | goto => simp [step] at hr
  | refuse => simp [step] at hr
theorem exec_mono {P : Program} {lib : Prims} : ∀ n, ExLe (exec P lib n) (exec P lib (n + 1)) := by
  intro n
  induction n with
  | zero => intro c f s r h; simp [exec] at h
  | succ n ih => exact step_mono ih
theorem exec_mono_le {P : Program} {lib : Prims} {n m : Nat} (h : n ≤ m) : ExLe (exec P lib n) (exec P lib m) := by
  induction m with
  | zero => obtain rfl : n = 0 := by omega
            exact fun _ _ _ _ h => h
  | succ m ih =>
    by_cases hn : n = m + 1
    · subst hn; exact fun _ _ _ _ h => h
    · exact fun c f s r hr => exec_mono m c f s r (ih (by omega) c f s r hr)
theorem Runs.of_eval {P : Program} {lib : Prims} (hl : LibFr lib) {n : Nat} {g : FuncId} {args : List Value} {s : ASt} {v : Value} {s' : ASt} {Q : Value → ASt → Prop} (h : acall P lib n g args s = some (v, s')) (hq : Q v s') : Runs P lib g args s Q :=
  fun hwf => ⟨v, s', ⟨n, fun _ hm => callStep_mono (exec_mono_le hm) _ _ _ _ h⟩, by obtain ⟨_, _, _, k⟩ := acall_fr hl n _ _ _ _ _ _ _ (Adds.refl s) hwf h; exact k, hq⟩
theorem Runs.closed {P : Program} {lib : Prims} (hl : LibFr lib) {n k : Nat} {g : FuncId} (h : answersTrue (acall P lib n g [] ⟨.nil, k⟩) = true) {s : ASt} (hk : s.next = k) (hw : WF s) : Runs P lib g [] s fun v s' => v = .bool true ∧ Stay s.next s s' ∧ WF s' := by
  unfold answersTrue at h
  split at h
  case h_2 => cases h
  rename_i b t hc
  subst h
  have hw0 : WF ⟨.nil, k⟩ := ⟨by omega, fun j o hj => by simp [Tr.get] at hj⟩
  have ha : Adds ⟨.nil, k⟩ s (fun j => s.heap.get j) := ⟨hk, fun j o hj => ⟨rfl, by show j < k; rw [← hk]; exact hw.bound j o hj⟩, fun j => by simp only [Tr.get]; cases s.heap.get j <;> rfl⟩
  obtain ⟨t', h1, h2, h3⟩ := acall_fr hl n _ _ _ _ _ _ _ ha hw0 hc
  refine Runs.of_eval hl h1 ⟨rfl, ⟨by rw [h2.next, hk]; exact h3.next, fun i hi => ?_⟩, ⟨by omega, fun j o hj => ?_⟩⟩
  · rw [h2.get i]
    cases hx : s.heap.get i with
    | some o => rfl
    | none => exact h3.gone i (by show i < k; omega) rfl
  · rw [h2.get j] at hj
    rw [h2.next]
    cases hx : s.heap.get j with
    | some o => have := hw.bound j o hx; have := h3.next; show j < t.next; have e : (⟨Tr.nil, k⟩ : ASt).next = k := rfl; omega
    | none => rw [hx] at hj; exact h3.wf.bound j o hj
end Go.Cl
