/-
 The clean machine: what stands behind a piece of code is asked once, of what the piece leaves.
-/
import Derived.Test.YthlbahnfimigcaaAgg
namespace Go.Cl
theorem wput_mono {f : AFr} {d : Option Tmp} {v : Value} {K K' : AFr -> Prop} (h : wput f d v K) (k : ∀ f, K f -> K' f) : wput f d v K' := by
 unfold wput at h ⊢
 split at h
 ·exact k _ h
 ·exact h.elim
theorem wquiet_mono {P : Program} {all : List Oper} : ∀ {r : List Oper} {f : AFr} {s : ASt} {Q Q' : AFr -> Prop}, wquiet P all r f s Q -> (∀ f, Q f -> Q' f) -> wquiet P all r f s Q' := by
 intro r
 induction r with
 | nil => intro f s Q Q' h k; exact k _ h
 | cons o r ih =>
  intro f s Q Q' h k
  rw [wquiet_cons] at h ⊢
  cases hw : wantedA all o f with
  | false =>
   rw [hw] at h
   exact wput_mono h fun f h => ih h k
  | true =>
   rw [hw] at h
   simp only [wasks] at h ⊢
   unfold wlook at h ⊢
   split at h
   ·exact ⟨h.1, wput_mono h.2 fun f h => ih h k⟩
   ·exact h.elim
end Go.Cl