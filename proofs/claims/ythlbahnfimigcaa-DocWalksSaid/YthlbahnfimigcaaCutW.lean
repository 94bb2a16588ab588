/-
  The clean machine: what stands behind a piece of code is asked once, of what the piece leaves.
-/
import Derived.Test.YthlbahnfimigcaaAgg
namespace Go.Cl
theorem wput_mono {f : AFr} {d : Option Tmp} {v : Value} {K K' : AFr → Prop} (h : wput f d v K) (k : ∀ f, K f → K' f) : wput f d v K' := by
  unfold wput at h ⊢
  split at h
  · exact k _ h
  · exact h.elim
theorem wops_mono {P : Program} {lib : Prims} {all : List Oper} : ∀ {r : List Oper} {f : AFr} {s : ASt} {Q Q' : AFr → ASt → Prop}, wops P lib all r f s Q → (∀ f s, Q f s → Q' f s) → wops P lib all r f s Q' := by
  intro r
  induction r with
  | nil => intro f s Q Q' h k; rw [wops_nil] at h ⊢; exact k _ _ h
  | cons o r ih =>
    intro f s Q Q' h k
    rw [wops_cons] at h ⊢
    cases hw : wantedA all o f with
    | false =>
      rw [hw] at h
      exact wput_mono h fun f h => ih h k
    | true =>
      rw [hw] at h
      simp only [wwant] at h ⊢
      unfold wstep at h ⊢
      split at h
      · exact wput_mono h fun f h => ih h k
      · exact h.mono fun v s' h => wput_mono h fun f h => ih h k
      · exact h.elim
theorem wquiet_mono {P : Program} {all : List Oper} : ∀ {r : List Oper} {f : AFr} {s : ASt} {Q Q' : AFr → Prop}, wquiet P all r f s Q → (∀ f, Q f → Q' f) → wquiet P all r f s Q' := by
  intro r
  induction r with
  | nil => intro f s Q Q' h k; exact k _ h
  | cons o r ih =>
    intro f s Q Q' h k
    rw [wquiet_cons] at h ⊢
    cases hw : wantedA all o f with
    | false =>
      rw [hw] at h
      exact wput_mono h fun f h => ih h k
    | true =>
      rw [hw] at h
      simp only [wasks] at h ⊢
      unfold wlook at h ⊢
      split at h
      · exact ⟨h.1, wput_mono h.2 fun f h => ih h k⟩
      · exact h.elim
theorem wcode_mono {P : Program} {lib : Prims} : ∀ (c : Code) {f : AFr} {s : ASt} {Q Q' : AX → AFr → ASt → Prop}, wcode P lib c f s Q → (∀ x f s, Q x f s → Q' x f s) → wcode P lib c f s Q' := by
  intro c
  induction c with
  | skip => intro f s Q Q' h k; exact k _ _ _ h
  | label l => intro f s Q Q' h k; exact k _ _ _ h
  | exit id => intro f s Q Q' h k; exact k _ _ _ h
  | ret => intro f s Q Q' h k; exact k _ _ _ h
  | loop a _ => intro f s Q Q' h k; exact Comes.mono h k
  | rangeFunc => intro f s Q Q' h; exact h.elim
  | goto => intro f s Q Q' h; exact h.elim
  | refuse => intro f s Q Q' h; exact h.elim
  | region id ops d =>
    intro f s Q Q' h k
    cases d with
    | false => rw [wcode_region] at h ⊢; exact wops_mono h (k _)
    | true =>
      rw [wcode_draw] at h ⊢
      revert h
      cases allQuiet P ops.toList with
      | true => intro h; exact wquiet_mono h (fun f h => k _ _ _ h)
      | false => intro h; exact wdraw_cut _ h (k _)
  | seq a b iha ihb =>
    intro f s Q Q' h k
    refine iha h fun x f s h => ?_
    cases x with
    | normal => exact ihb h k
    | _ => exact k _ _ _ h
  | cond y a b iha ihb =>
    intro f s Q Q' h k
    rw [wcode_cond] at h ⊢
    unfold wcond at h ⊢
    split at h
    · rename_i t _
      cases t with
      | true => exact iha h k
      | false => exact ihb h k
    · exact h.elim
  | block id a iha => intro f s Q Q' h k; exact iha h fun x f s h => k _ _ _ h
  | scope a iha => intro f s Q Q' h k; exact iha h k
/-- The first of two pieces, by itself. -/
theorem wseq_cut {P : Program} {lib : Prims} {a b : Code} {f : AFr} {s : ASt} {Q : AX → AFr → ASt → Prop} (R : AFr → ASt → Prop) (h : wcode P lib a f s fun x f' s' => x = .normal ∧ R f' s') (k : ∀ f' s', R f' s' → wcode P lib b f' s' Q) : wcode P lib (.seq a b) f s Q :=
  wcode_mono a h fun x f' s' ⟨hx, hr⟩ => by subst hx; exact k _ _ hr
theorem wops_cut {P : Program} {lib : Prims} {all r : List Oper} {f : AFr} {s : ASt} {Q : AFr → ASt → Prop} (R : AFr → ASt → Prop) (h : wops P lib all r f s R) (k : ∀ f' s', R f' s' → Q f' s') : wops P lib all r f s Q := wops_mono h k
/-- Behind a call: up to the end of its statement. -/
theorem wcall_cut {P : Program} {lib : Prims} {all r : List Oper} {f : AFr} {d : Option Tmp} {Q : AFr → ASt → Prop} {v : Value} {s' : ASt} (R : AFr → ASt → Prop) (h : wcall P lib all r f d R v s') (k : ∀ f' s', R f' s' → Q f' s') : wcall P lib all r f d Q v s' := wput_mono h fun _ h => wops_mono h k
/-- Behind a test: the two ways, up to where they meet. -/
theorem wif_cutR {P : Program} {lib : Prims} {a b : Code} {f : AFr} {s : ASt} {Q : AX → AFr → ASt → Prop} {t : Bool} (R : AX → AFr → ASt → Prop) (h : wif P lib a b f s R t) (k : ∀ x f' s', R x f' s' → Q x f' s') : wif P lib a b f s Q t := by
  cases t with
  | true => exact wcode_mono a h k
  | false => exact wcode_mono b h k
end Go.Cl
