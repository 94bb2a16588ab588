import Derived.Test.YtokfoagohblkoaaSame
set_option linter.unusedSimpArgs false
set_option linter.unusedVariables false
set_option maxRecDepth 100000
namespace Go.Proofs.Ytokfoagohblkoaa
open Go.Cl
theorem aae {lib : zm} (hl : lib.at 49 = none) (s : ASt) (x : Value) (a : List UInt8) (hx : Sees s 1 x a.length (zF a)) (ha : a.length ≤ 4294967296) :
  Runs Try.prog lib 49 [x] s fun v s' => Kz s v s' a := by
 refine Runs.enter 19 Try.func49 rfl hl rfl rfl ?_
 intro f hn hf
 have h0 : f.get 0 = x := hf 0
 clear hf
 simp only [allW, allR, zj, zP, zh, zc, zn, optA, Nat.reduceLT, Nat.reduceLeDiff, Nat.reduceEqDiff, Nat.reduceAdd, ↓reduceIte, hn, h0]
 refine yf.loopAt (fun k f s' => ∃ (i : Nat) (o : Value), k = a.length - i ∧ i ≤ a.length ∧ Own s' 1 o i (zF (a.take i)) ∧ yb s.next o ∧ Stay s.next s s' ∧ f.n = 19 ∧ f.get 0 = x ∧ f.get 4 = .int .i64 i ∧ f.get 3 = o) ⟨0, _, rfl, by omega, .nil, yb.nil _, Stay.refl _ _, by simp only [za, zf, ↓reduceIte, Nat.reduceEqDiff, hn], by simp only [za, zf, ↓reduceIte, Nat.reduceEqDiff, h0], by simp only [za, zf, ↓reduceIte, Nat.reduceEqDiff]; rfl, by simp only [za, zf, ↓reduceIte, Nat.reduceEqDiff]⟩ ?_
 clear hn h0 f
 rintro k f s1 ⟨i, o, rfl, hi, ho, hfr, hst, hn, h0, h4, h3⟩
 have hx1 := hx.keeps hst
 by_cases hlt : i < a.length
 ·simp (disch := omega) only [allW, allR, zj, zP, zh, zc, zn, optA, Nat.reduceLT, Nat.reduceLeDiff, Nat.reduceEqDiff, Nat.reduceAdd, ↓reduceIte, hn, h0, h4, h3, hlt, hx1.lenA Try.underlying27, hx1.indexAddr Try.underlying27 szU8, hx1.load1 agU8, jE, build1 Try.underlying27 szU8 zU8]
  refine Wm Try.underlying27 szU8 byU8 zU8 rfl ho (by simp only [za, zf, ↓reduceIte, Nat.reduceEqDiff, h3]) (by decide) (by simp only [za, zf, ↓reduceIte, Nat.reduceEqDiff, hn]; decide) (by simp only [za, zf, ↓reduceIte, Nat.reduceEqDiff, hn]; decide) rfl (by decide) rfl (by omega) (by omega) hfr hst.next ?_
  intro bs o' s2 ho' hfr' hst' _ _
  simp (disch := omega) only [allW, allR, zj, zP, zh, zc, zn, optA, Nat.reduceLT, Nat.reduceLeDiff, Nat.reduceEqDiff, Nat.reduceAdd, ↓reduceIte, hn, h0, h4, zR]
  refine zz (a.length - (i + 1)) (by omega) ⟨i + 1, o', rfl, by omega, ?_, hfr', hst.trans hst', by simp only [za, zf, ↓reduceIte, Nat.reduceEqDiff, hn], by simp only [za, zf, ↓reduceIte, Nat.reduceEqDiff, h0], by simp only [za, zf, ↓reduceIte, Nat.reduceEqDiff]; rfl, by simp only [za, zf, ↓reduceIte, Nat.reduceEqDiff]⟩
  rw [Sr hlt, Qm]; exact ho'
 ·simp (disch := omega) only [allW, allR, zj, zP, zh, zc, zn, optA, Nat.reduceLT, Nat.reduceLeDiff, Nat.reduceEqDiff, Nat.reduceAdd, ↓reduceIte, hn, h0, h4, h3, hlt, hx1.lenA Try.underlying27, Try.results49]
  obtain rfl : i = a.length := by omega
  rw [List.take_of_length_le (Nat.le_refl _)] at ho
  exact ⟨ho, hfr, hst⟩
end Go.Proofs.Ytokfoagohblkoaa