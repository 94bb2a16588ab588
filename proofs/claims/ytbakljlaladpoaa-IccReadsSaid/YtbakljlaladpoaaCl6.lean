/-
  The clean machine, part 6: slices, strings, maps, rows that grow: each operation over the model.
-/
import Derived.Test.YtbakljlaladpoaaCl5
namespace Go.Cl
open Go.RowKit

def OV (S : St) (o o' : Option Value) : Prop := (o = none ∧ o' = none) ∨ ∃ v v', o = some v ∧ o' = some v' ∧ VR S v v'

theorem natOf_ok {S : St} {o o' : Option Value} {d n : Nat} (hv : OV S o o') (h : natOf o d = some n) : (o = none ∧ o' = none ∧ n = d) ∨ ∃ k, o = some (.int k n) ∧ o' = some (.int k n) := by
  unfold natOf at h
  split at h
  · rcases hv with ⟨_, h2⟩ | ⟨v, v', h1, _, _⟩
    · exact .inl ⟨rfl, h2, (Option.some.inj h).symm⟩
    · cases h1
  · rename_i k m
    rcases hv with ⟨h1, _⟩ | ⟨v, v', h1, h2, h3⟩
    · cases h1
    · obtain rfl := Option.some.inj h1
      cases h3
      obtain rfl := Option.some.inj h
      exact .inr ⟨k, rfl, h2⟩
  · cases h

theorem run_sliceBound {P : Program} (w : World) (k : IntKind) (n y : Nat) (code : BoundsCode) (h : n ≤ y) : (Instr.sliceBound (.int k n) y code).run P w = .ok n w := by
  simp [Instr.sliceBound, asIntOf]
  omega

theorem run_sliceBounds2 {P : Program} {S : St} (w : World) (isS : Bool) (len cap : Nat) {lo hi lo' hi' : Option Value} {l h : Nat} (hlo : OV S lo lo') (hhi : OV S hi hi') (h1 : natOf lo 0 = some l) (h2 : natOf hi len = some h) (hlh : l ≤ h) (hh : h ≤ cap) :
    (Instr.sliceBounds isS len cap lo' hi' none).run P w = .ok (l, h, cap) w := by
  rcases natOf_ok hlo h1 with ⟨_, rfl, rfl⟩ | ⟨k1, _, rfl⟩ <;> rcases natOf_ok hhi h2 with ⟨_, rfl, rfl⟩ | ⟨k2, _, rfl⟩ <;>
    simp [Instr.sliceBounds, run_sliceBound, hlh, hh]

theorem run_sliceBounds3 {P : Program} {S : St} (w : World) (isS : Bool) (len cap : Nat) {lo hi mx lo' hi' mx' : Option Value} {l h m : Nat} (hlo : OV S lo lo') (hhi : OV S hi hi') (hmx : OV S mx mx') (h1 : natOf lo 0 = some l) (h2 : natOf hi len = some h)
    (h3 : natOf mx 0 = some m) (hmn : mx ≠ none) (hin : hi ≠ none) (hlh : l ≤ h) (hhm : h ≤ m) (hm : m ≤ cap) :
    (Instr.sliceBounds isS len cap lo' hi' mx').run P w = .ok (l, h, m) w := by
  rcases natOf_ok hmx h3 with ⟨e, _, _⟩ | ⟨k3, _, rfl⟩
  · exact absurd e hmn
  · rcases natOf_ok hhi h2 with ⟨e, _, _⟩ | ⟨k2, _, rfl⟩
    · exact absurd e hin
    · rcases natOf_ok hlo h1 with ⟨_, rfl, rfl⟩ | ⟨k1, _, rfl⟩ <;> simp [Instr.sliceBounds, run_sliceBound, hlh, hhm, hm]

theorem eszIs_ok {s : ASt} {i c z : Nat} (h : eszIs s i c z = true) : c = 0 ∨ ∃ b, s.blk? i = some b ∧ b.esz = z := by
  unfold eszIs at h
  split at h
  · exact .inl rfl
  · split at h
    · rename_i b hb; exact .inr ⟨b, hb, by simpa [Nat.beq_eq] using h⟩
    · cases h

/-- A slice of a slice. -/
theorem VR.sub {S : St} {i off len c : Nat} {a : Addr} {cap : Nat} (hv : VR S (.slice (some ⟨i, off, none⟩) len c) (.slice (some a) len cap)) {l h m z : Nat} (hlh : l ≤ h) (hhm : h ≤ m) (hm : m ≤ cap) (hz : eszIs S.s i c z = true) (c' : Nat) (hc' : c' = c ∨ (c' = 0 ∧ m = l)) :
    VR S (.slice (some ⟨i, off + l * z, none⟩) (h - l) c') (.slice (some (if m = l then a else a.add (l * z))) (h - l) (m - l)) := by
  cases hv with
  | slice _ _ _ _ _ _ h0 hz0 hr =>
  refine .slice _ _ _ _ _ _ (by omega) (fun e => ?_) (fun hpos => ?_)
  · rcases hc' with rfl | ⟨_, h2⟩
    · have := hz0 e; omega
    · omega
  · have hne : ¬ m = l := by omega
    obtain rfl : c' = c := by rcases hc' with h' | ⟨_, h'⟩ <;> omega
    rw [if_neg hne]
    obtain ⟨⟨b, hb, hcb, hl⟩, hcap⟩ := hr (by omega)
    refine ⟨⟨b, hb, hcb, fun hlow => by rw [hl hlow, Addr.add_lit, Nat.add_assoc]⟩, fun b' hb' hlow => ?_⟩
    rw [hb] at hb'; obtain rfl := Option.some.inj hb'
    obtain ⟨arr, E, fr, h1, h2⟩ := hcap b hb hlow
    have hzz : b.esz = z := by
      rcases eszIs_ok hz with rfl | ⟨b2, hb2, h3⟩
      · have := hz0 rfl; omega
      · rw [hb] at hb2; obtain rfl := Option.some.inj hb2; exact h3
    have ha := hl hlow
    rw [ha] at h1 h2 ⊢
    rw [Addr.add_lit]
    refine ⟨arr, E, fr, h1, ?_⟩
    simp only at h2 ⊢
    rw [hzz] at h2 ⊢
    have : l * z + (m - l) * z ≤ cap * z := by rw [← Nat.add_mul]; exact Nat.mul_le_mul_right _ (by omega)
    omega

theorem sliceA_ok {P : Program} {base : Nat} {S : St} (hs : SR base S) {t : TypeId} {x x' v : Value} {lo hi mx lo' hi' mx' : Option Value} (hx : VR S x x') (hlo : OV S lo lo') (hhi : OV S hi hi') (hmx : OV S mx mx') (h : sliceA P S.s t x lo hi mx = some v) :
    Reads P S (Instr.sliceAt t x' lo' hi' mx') v := by
  unfold sliceA at h
  split at h
  · rename_i b hu
    cases hx
    split at h
    · rename_i l hh h1 h2
      rcases hmx with ⟨_, rfl⟩ | ⟨_, _, e, _, _⟩
      case inr => cases e
      split at h
      · rename_i hc
        simp only [Bool.and_eq_true, Nat.ble_eq] at hc
        obtain rfl := Option.some.inj h
        have hsz := size_data b
        have hb := run_sliceBounds2 (P := P) S.w false b.size b.size hlo hhi h1 (by rw [hsz]; exact h2) hc.1 (by rw [hsz]; exact hc.2)
        refine ⟨_, ?_, .string _⟩
        simp only [Instr.sliceAt, Instr.slice, Sem.run_bind, run_underlying hu, Result.andThen_ok, hb, Option.isSome_none, Bool.false_eq_true, if_false, Sem.run_pure]
        congr 2
        apply ba_ext
        rw [ByteArray.data_extract, Array.toList_extract]
        simp only [List.extract, List.drop_take]
      · cases h
    · cases h
  · rename_i e a len c hu
    split at h
    · rename_i l hh z h1 h2 hz
      split at h
      · rename_i hc
        simp only [Bool.and_eq_true, Nat.ble_eq] at hc
        split at h
        · -- no third index
          rcases hmx with ⟨_, rfl⟩ | ⟨_, _, e, _, _⟩
          case inr => cases e
          split at h
          · obtain rfl := Option.some.inj h
            cases hx
            have hb := run_sliceBounds2 (P := P) S.w true 0 0 hlo hhi h1 h2 hc.1 hc.2
            obtain rfl : hh = 0 := by omega
            obtain rfl : l = 0 := by omega
            refine ⟨_, ?_, .sliceNil⟩
            simp [Instr.sliceAt, Instr.slice, run_underlying hu, hb, run_sizeOf hz]
          · rename_i i off
            split at h
            · rename_i hes
              obtain rfl := Option.some.inj h
              have hx0 := hx
              cases hx with
              | slice _ _ _ _ a1 cap h0 hz0 hr =>
              have hb := run_sliceBounds2 (P := P) S.w true len cap hlo hhi h1 h2 hc.1 (by omega)
              refine ⟨_, ?_, hx0.sub hc.1 (by omega : hh ≤ cap) (Nat.le_refl _) hes c (.inl rfl)⟩
              simp [Instr.sliceAt, Instr.slice, run_underlying hu, hb, run_sizeOf hz]
              split <;> rfl
            · cases h
          · cases h
        · rename_i m
          split at h
          · rename_i m' hv hm
            split at h
            · rename_i hc2
              simp only [Bool.and_eq_true, Nat.ble_eq] at hc2
              split at h
              · obtain rfl := Option.some.inj h
                cases hx
                have hb := run_sliceBounds3 (P := P) S.w true 0 0 hlo hhi hmx h1 h2 hm (by simp) (by simp) hc.1 hc2.1 hc2.2
                obtain rfl : hh = 0 := by omega
                obtain rfl : l = 0 := by omega
                obtain rfl : m' = 0 := by omega
                refine ⟨_, ?_, .sliceNil⟩
                simp [Instr.sliceAt, Instr.slice, run_underlying hu, hb, run_sizeOf hz]
              · rename_i i off
                split at h
                · rename_i hes
                  obtain rfl := Option.some.inj h
                  have hx0 := hx
                  cases hx with
                  | slice _ _ _ _ a1 cap h0 hz0 hr =>
                  have hb := run_sliceBounds3 (P := P) S.w true len cap hlo hhi hmx h1 h2 hm (by simp) (by simp) hc.1 hc2.1 (by omega)
                  refine ⟨_, ?_, hx0.sub hc.1 hc2.1 (by omega) hes _ ?_⟩
                  · simp [Instr.sliceAt, Instr.slice, run_underlying hu, hb, run_sizeOf hz]
                    split <;> rfl
                  · by_cases hlm : l = m'
                    · rw [if_pos (by simp [hlm])]; exact .inr ⟨rfl, hlm.symm⟩
                    · rw [if_neg (by simp [hlm])]; exact .inl rfl
                · cases h
              · cases h
            · cases h
          · cases h
      · cases h
    · cases h
  · rename_i n e i off c hu
    split at h
    · rename_i l hh z b h1 h2 hz hb
      rcases hmx with ⟨_, rfl⟩ | ⟨_, _, e, _, _⟩
      case inr => cases e
      split at h
      · rename_i hc
        simp only [Bool.and_eq_true, Nat.ble_eq, Nat.blt_eq, Nat.beq_eq] at hc
        obtain ⟨⟨⟨⟨⟨⟨hc1, hc2⟩, hlow⟩, hle⟩, hlt⟩, hesz⟩, hz0⟩ := hc
        obtain rfl := Option.some.inj h
        obtain ⟨a1, rfl, hr⟩ := hx.ptr_inv
        have hlive : Live b c := ⟨hlow, hle⟩
        obtain rfl := hr.addr hb hlive
        have hbd := run_sliceBounds2 (P := P) S.w false n n hlo hhi h1 h2 hc1 hc2
        refine ⟨.slice (some (if n = l then ⟨(S.e.loc i c).1, (S.e.loc i c).2 + off, none⟩ else (⟨(S.e.loc i c).1, (S.e.loc i c).2 + off, none⟩ : Addr).add (l * z))) (hh - l) (n - l), ?_, ?_⟩
        · simp [Instr.sliceAt, run_underlying hu, Instr.sureAddr, hbd, run_sizeOf hz]
        · refine .slice _ _ _ _ _ _ (by omega) (fun e => by omega) (fun hpos => ?_)
          have hnl : ¬ n = l := by omega
          rw [if_neg hnl, Addr.add_lit]
          refine ⟨⟨b, hb, hle, fun _ => by rw [Nat.add_assoc]⟩, fun b2 hb2 _ => ?_⟩
          rw [hb] at hb2; obtain rfl := Option.some.inj hb2
          have hnz : 0 < n * z := Nat.mul_pos (by omega) hz0
          obtain ⟨v, hv, _⟩ := hs.cell i b hb c hlive (off + n * z - 1) (by omega)
          obtain ⟨arr, E, fr, hk, ha⟩ := block_of_cell hv
          have hlt2 := (Array.getElem?_eq_some_iff.1 ha).1
          refine ⟨arr, E, fr, hk, ?_⟩
          simp only
          rw [hesz]
          have : l * z + (n - l) * z = n * z := by rw [← Nat.add_mul]; congr 1; omega
          omega
      · cases h
    · cases h
  · cases h

end Go.Cl
