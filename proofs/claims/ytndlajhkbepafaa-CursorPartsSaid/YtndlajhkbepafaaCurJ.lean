/-
  bytes.Index, stood in for: by the library's contract it is what is stood in.
-/
import Derived.Test.YtndlajhkbepafaaCurI
import Derived.Shelf.Bytes.SlIndexSmall
import Derived.Shelf.Bytes.SlIndexWhole
set_option linter.unusedSimpArgs false
set_option linter.unusedVariables false
set_option maxRecDepth 100000
namespace Go.Cl
open Go.Proofs Go.Shelf Go.Lib
set_option maxHeartbeats 2000000 in
theorem pIndex_ok {P : Program} {ρ : Ren} (L : Lays.n185 P ρ) (he : ∀ args w, (callFunc (ρ.f 185) args).run P w = .ok (.enter (ρ.f 185) args) w) :
    PrimOk P (fun base w => ρ.g 1 < base ∧ ∃ m, w.cell? ⟨ρ.g 1, 0, none⟩ = some (.int .i64 m)) (ρ.f 185) pIndex := by
  intro base S s args v s' hss hs hpre hp args' hva
  obtain ⟨t', k1, k2, _⟩ := pIndex_fr s S.s _ args v s' hss (hss.wf hs.wf) hp
  obtain ⟨a, n, c, a2, n2, c2, k, m, l, b, rfl, h1, h2, hn, hmb, rfl, rfl⟩ := pIndex_spec k1
  obtain ⟨x', y', rfl, hx, hy⟩ := hva.arr2
  obtain ⟨ax, cx, rfl, hcx, rfl, hX⟩ := slice_world hs hx h1
  obtain ⟨ay, cy, rfl, hcy, rfl, hY⟩ := slice_world hs hy h2
  refine .inl ⟨fun w => he _ w, ?_⟩
  have key : Calls P (ρ.f 185) #[.slice ax l.length cx, .slice ay b.length cy] S.w fun e w' => e = .returned (.int .i64 (Lib.index l b)) ∧ ∃ q, w' = S.w.drewN q := by
    have same : ∀ {v : Value}, (Calls P (ρ.f 185) #[.slice ax l.length cx, .slice ay b.length cy] S.w fun e w' => e = .returned v ∧ w' = S.w) → Calls P (ρ.f 185) #[.slice ax l.length cx, .slice ay b.length cy] S.w fun e w' => e = .returned v ∧ ∃ q, w' = S.w.drewN q :=
      fun h => h.mono fun e w' ⟨he, hw⟩ => ⟨he, 0, hw⟩
    rcases hY with hb0 | ⟨bd, rfl, hyc⟩
    · have e : b = [] := List.eq_nil_of_length_eq_zero hb0.1
      subst e
      rw [Lib.index_empty]
      exact same (Any.bytes_Index_none L ax ay _ _ _ _)
    by_cases hb0 : b.length = 0
    · have e : b = [] := List.eq_nil_of_length_eq_zero hb0
      subst e
      rw [Lib.index_empty]
      exact same (Any.bytes_Index_none L ax (some bd) _ _ _ _)
    have at_ : ∀ ad, ax = some ad → (∀ i, i < l.length → S.w.cell? (ad.add i) = some (.int .u8 ((numsOf' l).getD i 0))) → Calls P (ρ.f 185) #[.slice ax l.length cx, .slice (some bd) b.length cy] S.w fun e w' => e = .returned (.int .i64 (Lib.index l b)) ∧ ∃ q, w' = S.w.drewN q := fun ad e hxc => by
      subst e
      obtain ⟨m, hm⟩ := hpre.2
      have hc := Any.bytes_Index_at (P := P) (ρ := ρ) { L with } ad bd l.length cx b.length cy (numsOf' l) (numsOf' b) m S.w (numsOf'_length l) (numsOf'_length b) (numsOf'_range l) (numsOf'_range b) hxc hyc hcx hn (by omega) hm
      rw [numsOf'_bytes, numsOf'_bytes] at hc
      exact hc
    rcases hX with ⟨hl0, hx0⟩ | ⟨ad, e, hxc⟩
    · by_cases hax : ax = none
      rotate_left
      · obtain ⟨ad, had⟩ := Option.ne_none_iff_exists'.1 hax
        exact at_ ad had (fun i hi => by omega)
      subst hax
      obtain rfl := hx0 rfl
      have e : l = [] := List.eq_nil_of_length_eq_zero hl0
      subst e
      have ei : Lib.index [] b = -1 := by
        cases b with
        | nil => exact absurd rfl hb0
        | cons c r => rfl
      rw [ei]
      by_cases hb1 : b.length = 1
      · have hc0 := hyc 0 (by omega)
        have ea : bd.add 0 = bd := by unfold Addr.add; split <;> simp_all
        rw [ea] at hc0
        have hp := Lib.plain_of_cell hc0
        obtain ⟨kb, ob, sb⟩ := bd
        injection hp with _ _ hp
        subst hp
        have hone := Any.bytes_Index_one_nil L kb ob cy _ _ hc0
        rw [← hb1] at hone
        exact same hone
      · have hlong := Any.bytes_Index_longer L none (some bd) 0 0 b.length cy S.w (by omega) (by omega) (by omega)
        exact same hlong
    · exact at_ ad e hxc
  refine key.mono ?_
  rintro e w' ⟨rfl, q, rfl⟩
  exact ⟨⟨S.s, S.e, S.w.drewN q⟩, _, k2, rfl, rfl, .int _ _, Good.drawnN hs q⟩
end Go.Cl
