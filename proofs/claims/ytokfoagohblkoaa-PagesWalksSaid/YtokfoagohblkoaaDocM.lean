import Derived.Test.YtokfoagohblkoaaDocI
import Derived.Test.YtokfoagohblkoaaCosK
import Derived.Test.YtokfoagohblkoaaCosO
set_option linter.unusedSimpArgs false
set_option linter.unusedVariables false
set_option maxRecDepth 100000
namespace Go.Cl
def resN (D : List (Int × O)) : Nat -> O -> O
 | 0, o => o
 | k + 1, o => if o.kind = 9 then resN D k (yk D o.num).1 else o
def resD (D : List (Int × O)) (o : O) : O := if (resN D 32 o).kind = 9 then O.none else resN D 32 o
def xF (D : List (Int × O)) : O -> List (List UInt8) -> O
 | x, [] => x
 | x, k :: K => xF D (resD D (getO x k)) K
theorem YV {D : List (Int × O)} {o : O} (h : ¬ o.kind = 9) : ∀ k, resN D k o = o
 | 0 => rfl
 | k + 1 => by unfold resN; rw [if_neg h]
theorem vm {D : List (Int × O)} (h : ∀ e ∈ D, zu e.2) (n : Int) : zu (yk D n).1 := by
 unfold yk
 cases hf : D.find? (fun e => e.1 == n) with
 | none => exact zu.none
 | some e => exact h e (List.mem_of_find?_eq_some hf)
theorem VX {D : List (Int × O)} (h : ∀ e ∈ D, zu e.2) : ∀ (k : Nat) {o : O}, zu o -> zu (resN D k o)
 | 0, _, ho => ho
 | k + 1, o, ho => by
  unfold resN
  split
  ·exact VX h k (vm h _)
  ·exact ho
theorem xG {D : List (Int × O)} (h : ∀ e ∈ D, zu e.2) {o : O} (ho : zu o) : zu (resD D o) := by
 unfold resD
 split
 ·exact zu.none
 ·exact VX h 32 ho
theorem ZK {D : List (Int × O)} (h : ∀ e ∈ D, zu e.2) : ∀ (k : Nat) {o : O}, Fit o -> Fit (resN D k o)
 | 0, _, ho => ho
 | k + 1, o, ho => by
  unfold resN
  split
  ·exact ZK h k (vm h _).fit
  ·exact ho
theorem KL {D : List (Int × O)} (h : ∀ e ∈ D, zu e.2) {o : O} (ho : Fit o) : Fit (resD D o) := by
 unfold resD
 split
 ·exact zu.none.fit
 ·exact ZK h 32 ho
theorem OIs.kindC {F : Nat -> Prop} {s : ASt} {cs : List Value} {o : O} (h : OIs F s cs o) : cs.getD 0 undef = .int .i64 o.kind ∧ cs.getD 1 undef = .int .i64 o.num := by
 cases o with
 | mk k n b l d => obtain ⟨bv, lv, dv, lc, dc, rfl, -⟩ := h.parts; exact ⟨rfl, rfl⟩
end Go.Cl
namespace Go.Proofs.Ytokfoagohblkoaa
open Go.Cl Go.Lib
set_option maxHeartbeats 4000000 in
theorem Wx {lib : zm} (hl : lib.at 24 = none) (hlf : lib.at 40 = none) (hli : lib.at 59 = none) (hlc : lib.at 60 = none) (hcp : lib.at 42 = none) (hcl : lib.at 61 = none) (hno : lib.at 41 = none) (F : Nat -> Prop) (s : ASt) (D : Dc) (mv : Value) (tc : List Value) (iv : Value) (ic : List Value) (hD : ye F s mv tc iv ic D) (hs : yN D) (G : Nat -> Prop) (cs : List Value) (o : O) (ho : OIs G s cs o) (hso : Fit o) :
  Runs Try.prog lib 24 [.agg (docC D mv tc iv).toArray, .agg cs.toArray] s (NewO s (resD D.items o)) := by
 have htl := hD.trailer.len
 have hol := ho.len
 have dl := xh (D := D) (mv := mv) (iv := iv) htl
 refine Runs.enter 28 Try.func24 rfl hl rfl rfl ?_
 intro f hn hf
 have h0 : f.get 0 = .agg (docC D mv tc iv).toArray := hf 0
 have h1 : f.get 1 = .agg cs.toArray := hf 1
 clear hf
 simp -implicitDefEqProofs (disch := omega) only [allW, Nat.reduceLT, ↓reduceIte, hn, h0]
 refine ze ?_
 intro s1 ht1 hst1 hnx1
 have ht1 : zd s1 s.next (docC D mv tc iv) := ht1
 simp -implicitDefEqProofs (disch := omega) only [allW, Nat.reduceLT, Nat.reduceEqDiff, Nat.reduceAdd, ↓reduceIte, hn, h1, dl]
 refine ze ?_
 intro s2 ht2 hst2 hnx2
 have ht2 : zd s2 s1.next cs := ht2
 simp -implicitDefEqProofs (disch := omega) only [allW, Nat.reduceLT, Nat.reduceAdd, ↓reduceIte, hn, hol, zO, plO]
 refine ze ?_
 intro s3 ht3 hst3 hnx3
 have n1 := hst1.next
 have n2 := hst2.next
 have n3 := hst3.next
 have hs2 : Stay s.next s s2 := hst1.trans (hst2.weaken n1)
 have hs3 : Stay s.next s s3 := hs2.trans (hst3.weaken (by omega))
 have ht13 := ht1.keeps (hst2.trans (hst3.weaken n2))
 have ht23 := ht2.keeps hst3
 have hd6 : zG.length + 1 = 6 := rfl
 simp -implicitDefEqProofs (disch := omega) only [allW, Nat.reduceLT, ↓reduceIte, hn, hd6]
 refine yf.loopOut (fun z f t => ∃ (i : Nat) (o' : O) (cs' : List Value), z = 32 - i ∧ i ≤ 32 ∧ resN D.items 32 o = resN D.items (32 - i) o' ∧ Fit o' ∧ OIs (fun j => j < s.next ∨ s3.next ≤ j) t cs' o' ∧ zd t s1.next cs' ∧ zd t s.next (docC D mv tc iv) ∧ zd t s2.next zG ∧ Stay s.next s t ∧ s3.next ≤ t.next ∧ f.n = 28 ∧ f.get 2 = .pointer (some ⟨s.next, 0, some 10⟩) ∧ f.get 3 = .pointer (some ⟨s1.next, 0, some 6⟩) ∧ f.get 4 = .pointer (some ⟨s2.next, 0, some 6⟩) ∧ f.get 5 = .int .i64 (i : Nat))
  (fun z f t => z = .exit 0 ∧ ∃ cs' : List Value, OIs (fun j => j < s.next ∨ s3.next ≤ j) t cs' (resN D.items 32 o) ∧ zd t s1.next cs' ∧ zd t s2.next zG ∧ Stay s.next s t ∧ s3.next ≤ t.next ∧ f.n = 28 ∧ f.get 3 = .pointer (some ⟨s1.next, 0, some 6⟩) ∧ f.get 4 = .pointer (some ⟨s2.next, 0, some 6⟩))
  ⟨0, o, cs, rfl, by omega, rfl, hso, (ho.lows.keeps hs3).mono (fun j h => .inl h.2), ht23, ht13, ht3, hs3, Nat.le_refl _, by simp only [zf, hn], by simp only [za, ↓reduceIte, Nat.reduceEqDiff], by simp only [za, ↓reduceIte, Nat.reduceEqDiff], by simp only [za, ↓reduceIte, Nat.reduceEqDiff], by simp only [za, ↓reduceIte]; rfl⟩ ?_ ?_
 ·clear hn h0 h1 f
  rintro Q hQ z f t ⟨i, o', cs', rfl, hi, hr, hso', ho', htc, htd, htn, hst, hnt, hn, h2, h3, h4, h5⟩
  have hcl' := ho'.len
  have lk : zg Try.prog t 3 (.pointer (some ⟨s1.next, 0, some 6⟩)) = some (.int .i64 o'.kind) := by
   have := htc.load (P := Try.prog) zT (off := 0) (c := 6) (by rw [hcl']) (by omega)
   rw [this, ho'.kindC.1]
  have ln : zg Try.prog t 2 (.pointer (some ⟨s1.next, 1, some 6⟩)) = some (.int .i64 o'.num) := by
   have := htc.load (P := Try.prog) wH (off := 1) (c := 6) (by rw [hcl']) (by omega)
   rw [this, ho'.kindC.2]
  by_cases hlt : i < 32
  rotate_left
  ·obtain rfl : i = 32 := by omega
   have d1 : ¬ ((32 : Nat) : Int) < 32 := by decide
   have hr : resN D.items 32 o = o' := hr
   simp -implicitDefEqProofs (disch := omega) only [allW, allR, Nat.reduceLT, Nat.reduceEqDiff, ↓reduceIte, undef, hn, h5, eq_false d1]
   exact hQ _ _ _ ⟨rfl, cs', by rw [hr]; exact ho', htc, htn, hst, hnt, by simp only [zf, hn], by simp only [za, ↓reduceIte, Nat.reduceEqDiff, h3], by simp only [za, ↓reduceIte, Nat.reduceEqDiff, h4]⟩
  have d1 : (i : Int) < 32 := by omega
  by_cases c9 : o'.kind = 9
  rotate_left
  ·have hr : resN D.items 32 o = o' := by rw [hr, YV c9]
   simp -implicitDefEqProofs (disch := omega) only [allW, allR, Nat.reduceLT, Nat.reduceEqDiff, ↓reduceIte, hn, h3, h5, eq_true d1, of0, lk, eq_false c9]
   exact hQ _ _ _ ⟨rfl, cs', by rw [hr]; exact ho', htc, htn, hst, hnt, by simp only [zf, hn], by simp only [za, ↓reduceIte, Nat.reduceEqDiff, h3], by simp only [za, ↓reduceIte, Nat.reduceEqDiff, h4]⟩
  simp -implicitDefEqProofs (disch := omega) only [allW, allR, zc, Nat.reduceLT, Nat.reduceEqDiff, ↓reduceIte, hn, h2, h3, h5, eq_true d1, of0, of1, lk, ln, c9, xC htd htl]
  refine (KJ hlf hli hlc hcp hcl _ t D mv tc iv ic (hD.lows.keeps hst) hs o'.num).mono ?_
  rintro _ t2 ⟨c2, rfl, ho2, k2⟩
  have m2 := k2.next
  have hl2 := ho2.len
  simp -implicitDefEqProofs (disch := omega) only [allW, Nat.reduceLT, Nat.reduceEqDiff, ↓reduceIte, hn, h3, ext0, ext1]
  refine zi szO (by decide) (htc.keeps k2) hcl' rfl hl2 ho2.ok ?_
  intro t3 ht3' nt3 et3
  have ht3' : zd t3 s1.next c2 := ht3'
  simp -implicitDefEqProofs (disch := omega) only [allW, Nat.reduceLT, Nat.reduceEqDiff, ↓reduceIte, hn, h5, zR]
  refine zz (32 - (i + 1)) (by omega) ⟨i + 1, (yk D.items o'.num).1, c2, rfl, by omega, ?_, (vm hs.items _).fit, (ho2.ofPut nt3 et3 (by omega)).mono (fun j (hj : _ ≤ j) => .inr (by omega)), ht3', (htd.keeps k2).ofPut nt3 et3 (by omega), (htn.keeps k2).ofPut nt3 et3 (by omega), (hst.trans (k2.weaken (by omega))).trans ⟨by omega, fun j hj => et3 j (by omega)⟩, by omega, by simp only [zf, hn], by simp only [za, ↓reduceIte, Nat.reduceEqDiff, h2], by simp only [za, ↓reduceIte, Nat.reduceEqDiff, h3], by simp only [za, ↓reduceIte, Nat.reduceEqDiff, h4], by simp only [za, ↓reduceIte]; rfl⟩
  rw [hr, show 32 - i = (32 - (i + 1)) + 1 by omega, resN, if_pos c9]
 clear hn h0 h1 f
 rintro z f t ⟨rfl, cs', ho', htc, htn, hst, hnt, hn, h3, h4⟩
 have hcl' := ho'.len
 have lk : zg Try.prog t 3 (.pointer (some ⟨s1.next, 0, some 6⟩)) = some (.int .i64 (resN D.items 32 o).kind) := by
  have := htc.load (P := Try.prog) zT (off := 0) (c := 6) (by rw [hcl']) (by omega)
  rw [this, ho'.kindC.1]
 have hsr := ZK hs.items 32 hso
 by_cases c9 : (resN D.items 32 o).kind = 9
 ·have e : resD D.items o = O.none := by unfold resD; rw [if_pos c9]
  simp -implicitDefEqProofs (disch := omega) only [allW, allR, zc, Nat.reduceLT, ↓reduceIte, hn, h3, of0, lk, c9]
  refine (Ww hno t).mono ?_
  rintro _ t2 ⟨c2, rfl, ho2, k2⟩
  have m2 := k2.next
  simp -implicitDefEqProofs (disch := omega) only [allW, Nat.reduceLT, Nat.reduceEqDiff, ↓reduceIte, hn, h4]
  refine zi szO (by decide) (htn.keeps k2) rfl rfl ho2.len ho2.ok ?_
  intro t3 ht3' nt3 et3
  simp -implicitDefEqProofs (disch := omega) only [allW, zj, zh, Nat.reduceLT, Nat.reduceEqDiff, ↓reduceIte, hn, h4, zd.loadO ht3' ho2.len, zy, Try.results24]
  rw [e]
  exact ⟨c2, rfl, (ho2.ofPut nt3 et3 (by omega)).mono (fun j (hj : _ ≤ j) => by omega), (hst.trans (k2.weaken (by omega))).trans ⟨by omega, fun j hj => et3 j (by omega)⟩⟩
 ·have e : resD D.items o = resN D.items 32 o := by unfold resD; rw [if_neg c9]
  simp -implicitDefEqProofs (disch := omega) only [allW, allR, zc, Nat.reduceLT, Nat.reduceEqDiff, ↓reduceIte, hn, h3, of0, lk, eq_false c9, zd.loadO htc hcl']
  refine (copyF hcp hcl _ _ (Nat.le_refl _) _ t cs' ho' hsr).mono ?_
  intro v t2 h5
  obtain ⟨c2, rfl, ho2, k2⟩ := h5.is
  have m2 := k2.next
  simp -implicitDefEqProofs (disch := omega) only [allW, Nat.reduceLT, Nat.reduceEqDiff, ↓reduceIte, hn, h4]
  refine zi szO (by decide) (htn.keeps k2) rfl rfl ho2.len ho2.ok ?_
  intro t3 ht3' nt3 et3
  simp -implicitDefEqProofs (disch := omega) only [allW, zj, zh, Nat.reduceLT, Nat.reduceEqDiff, ↓reduceIte, hn, h4, zd.loadO ht3' ho2.len, zy, Try.results24]
  rw [e]
  exact ⟨c2, rfl, (ho2.ofPut nt3 et3 (by omega)).mono (fun j (hj : _ ≤ j) => by omega), (hst.trans (k2.weaken (by omega))).trans ⟨by omega, fun j hj => et3 j (by omega)⟩⟩
theorem qC {lib : zm} (hl : lib.at 24 = none) (hlf : lib.at 40 = none) (hli : lib.at 59 = none) (hlc : lib.at 60 = none) (hcp : lib.at 42 = none) (hcl : lib.at 61 = none) (hno : lib.at 41 = none) (F : Nat -> Prop) (s : ASt) (D : Dc) (mv : Value) (tc : List Value) (iv : Value) (ic : List Value) (hD : ye F s mv tc iv ic D) (hs : yN D) (G : Nat -> Prop) (cs : List Value) (o : O) (ho : OIs G s cs o) (hso : zu o) :
  Runs Try.prog lib 24 [.agg (docC D mv tc iv).toArray, .agg cs.toArray] s (NewO s (resD D.items o)) := Wx hl hlf hli hlc hcp hcl hno F s D mv tc iv ic hD hs G cs o ho hso.fit
def RObj (F : Nat -> Prop) (s : ASt) (o : O) (v : Value) (s' : ASt) : Prop := ∃ cs, v = .agg cs.toArray ∧ OIs (fun j => F j ∨ s.next ≤ j) s' cs o ∧ Stay s.next s s'
set_option maxHeartbeats 4000000 in
theorem YW {lib : zm} (hl : lib.at 36 = none) (hlf : lib.at 55 = none) (F : Nat -> Prop) (s : ASt) (D : Dc) (mv : Value) (tc : List Value) (iv : Value) (ic : List Value) (hD : ye F s mv tc iv ic D) (hs : yN D) (cs : List Value) (o : O) (ho : OIs F s cs o) (hso : Fit o) :
  Runs Try.prog lib 36 [.agg (docC D mv tc iv).toArray, .agg cs.toArray] s (RObj F s (resD D.items o)) := by
 have htl := hD.trailer.len
 have hol := ho.len
 have dl := xh (D := D) (mv := mv) (iv := iv) htl
 refine Runs.enter 27 Try.func36 rfl hl rfl rfl ?_
 intro f hn hf
 have h0 : f.get 0 = .agg (docC D mv tc iv).toArray := hf 0
 have h1 : f.get 1 = .agg cs.toArray := hf 1
 clear hf
 simp -implicitDefEqProofs (disch := omega) only [allW, Nat.reduceLT, ↓reduceIte, hn, h0]
 refine ze ?_
 intro s1 ht1 hst1 hnx1
 have ht1 : zd s1 s.next (docC D mv tc iv) := ht1
 simp -implicitDefEqProofs (disch := omega) only [allW, Nat.reduceLT, Nat.reduceEqDiff, Nat.reduceAdd, ↓reduceIte, hn, h1, dl]
 refine ze ?_
 intro s2 ht2 hst2 hnx2
 have ht2 : zd s2 s1.next cs := ht2
 simp -implicitDefEqProofs (disch := omega) only [allW, Nat.reduceLT, Nat.reduceAdd, ↓reduceIte, hn, hol, zO, plO]
 refine ze ?_
 intro s3 ht3 hst3 hnx3
 have n1 := hst1.next
 have n2 := hst2.next
 have n3 := hst3.next
 have hs2 : Stay s.next s s2 := hst1.trans (hst2.weaken n1)
 have hs3 : Stay s.next s s3 := hs2.trans (hst3.weaken (by omega))
 have ht13 := ht1.keeps (hst2.trans (hst3.weaken n2))
 have ht23 := ht2.keeps hst3
 have hd6 : zG.length + 1 = 6 := rfl
 simp -implicitDefEqProofs (disch := omega) only [allW, Nat.reduceLT, ↓reduceIte, hn, hd6]
 refine yf.loopOut (fun z f t => ∃ (i : Nat) (o' : O) (cs' : List Value), z = 32 - i ∧ i ≤ 32 ∧ resN D.items 32 o = resN D.items (32 - i) o' ∧ Fit o' ∧ OIs (fun j => (F j ∧ j < s.next) ∨ s3.next ≤ j) t cs' o' ∧ zd t s1.next cs' ∧ zd t s.next (docC D mv tc iv) ∧ zd t s2.next zG ∧ Stay s.next s t ∧ s3.next ≤ t.next ∧ f.n = 27 ∧ f.get 2 = .pointer (some ⟨s.next, 0, some 10⟩) ∧ f.get 3 = .pointer (some ⟨s1.next, 0, some 6⟩) ∧ f.get 4 = .pointer (some ⟨s2.next, 0, some 6⟩) ∧ f.get 5 = .int .i64 (i : Nat))
  (fun z f t => z = .exit 0 ∧ ∃ cs' : List Value, OIs (fun j => (F j ∧ j < s.next) ∨ s3.next ≤ j) t cs' (resN D.items 32 o) ∧ zd t s1.next cs' ∧ zd t s2.next zG ∧ Stay s.next s t ∧ s3.next ≤ t.next ∧ f.n = 27 ∧ f.get 3 = .pointer (some ⟨s1.next, 0, some 6⟩) ∧ f.get 4 = .pointer (some ⟨s2.next, 0, some 6⟩))
  ⟨0, o, cs, rfl, by omega, rfl, hso, (ho.lows.keeps hs3).mono (fun j h => .inl h), ht23, ht13, ht3, hs3, Nat.le_refl _, by simp only [zf, hn], by simp only [za, ↓reduceIte, Nat.reduceEqDiff], by simp only [za, ↓reduceIte, Nat.reduceEqDiff], by simp only [za, ↓reduceIte, Nat.reduceEqDiff], by simp only [za, ↓reduceIte]; rfl⟩ ?_ ?_
 ·clear hn h0 h1 f
  rintro Q hQ z f t ⟨i, o', cs', rfl, hi, hr, hso', ho', htc, htd, htn, hst, hnt, hn, h2, h3, h4, h5⟩
  have hcl' := ho'.len
  have lk : zg Try.prog t 3 (.pointer (some ⟨s1.next, 0, some 6⟩)) = some (.int .i64 o'.kind) := by
   have := htc.load (P := Try.prog) zT (off := 0) (c := 6) (by rw [hcl']) (by omega)
   rw [this, ho'.kindC.1]
  have ln : zg Try.prog t 2 (.pointer (some ⟨s1.next, 1, some 6⟩)) = some (.int .i64 o'.num) := by
   have := htc.load (P := Try.prog) wH (off := 1) (c := 6) (by rw [hcl']) (by omega)
   rw [this, ho'.kindC.2]
  by_cases hlt : i < 32
  rotate_left
  ·obtain rfl : i = 32 := by omega
   have d1 : ¬ ((32 : Nat) : Int) < 32 := by decide
   have hr : resN D.items 32 o = o' := hr
   simp -implicitDefEqProofs (disch := omega) only [allW, allR, Nat.reduceLT, Nat.reduceEqDiff, ↓reduceIte, undef, hn, h5, eq_false d1]
   exact hQ _ _ _ ⟨rfl, cs', by rw [hr]; exact ho', htc, htn, hst, hnt, by simp only [zf, hn], by simp only [za, ↓reduceIte, Nat.reduceEqDiff, h3], by simp only [za, ↓reduceIte, Nat.reduceEqDiff, h4]⟩
  have d1 : (i : Int) < 32 := by omega
  by_cases c9 : o'.kind = 9
  rotate_left
  ·have hr : resN D.items 32 o = o' := by rw [hr, YV c9]
   simp -implicitDefEqProofs (disch := omega) only [allW, allR, Nat.reduceLT, Nat.reduceEqDiff, ↓reduceIte, hn, h3, h5, eq_true d1, of0, lk, eq_false c9]
   exact hQ _ _ _ ⟨rfl, cs', by rw [hr]; exact ho', htc, htn, hst, hnt, by simp only [zf, hn], by simp only [za, ↓reduceIte, Nat.reduceEqDiff, h3], by simp only [za, ↓reduceIte, Nat.reduceEqDiff, h4]⟩
  simp -implicitDefEqProofs (disch := omega) only [allW, allR, zc, Nat.reduceLT, Nat.reduceEqDiff, ↓reduceIte, hn, h2, h3, h5, eq_true d1, of0, of1, lk, ln, c9, xC htd htl]
  refine (Js hlf _ t D mv tc iv ic (hD.lows.keeps hst) hs o'.num).mono ?_
  rintro _ t2 ⟨c2, rfl, ho2, k2⟩
  have m2 := k2.next
  have hl2 := ho2.len
  simp -implicitDefEqProofs (disch := omega) only [allW, Nat.reduceLT, Nat.reduceEqDiff, ↓reduceIte, hn, h3, ext0, ext1]
  refine zi szO (by decide) (htc.keeps k2) hcl' rfl hl2 ho2.ok ?_
  intro t3 ht3' nt3 et3
  have ht3' : zd t3 s1.next c2 := ht3'
  simp -implicitDefEqProofs (disch := omega) only [allW, Nat.reduceLT, Nat.reduceEqDiff, ↓reduceIte, hn, h5, zR]
  refine zz (32 - (i + 1)) (by omega) ⟨i + 1, (yk D.items o'.num).1, c2, rfl, by omega, ?_, (vm hs.items _).fit, (ho2.ofPut nt3 et3 (fun h => by have := h.2; omega)).mono (fun j hj => .inl hj), ht3', (htd.keeps k2).ofPut nt3 et3 (by omega), (htn.keeps k2).ofPut nt3 et3 (by omega), (hst.trans (k2.weaken (by omega))).trans ⟨by omega, fun j hj => et3 j (by omega)⟩, by omega, by simp only [zf, hn], by simp only [za, ↓reduceIte, Nat.reduceEqDiff, h2], by simp only [za, ↓reduceIte, Nat.reduceEqDiff, h3], by simp only [za, ↓reduceIte, Nat.reduceEqDiff, h4], by simp only [za, ↓reduceIte]; rfl⟩
  rw [hr, show 32 - i = (32 - (i + 1)) + 1 by omega, resN, if_pos c9]
 clear hn h0 h1 f
 rintro z f t ⟨rfl, cs', ho', htc, htn, hst, hnt, hn, h3, h4⟩
 have hcl' := ho'.len
 have lk : zg Try.prog t 3 (.pointer (some ⟨s1.next, 0, some 6⟩)) = some (.int .i64 (resN D.items 32 o).kind) := by
  have := htc.load (P := Try.prog) zT (off := 0) (c := 6) (by rw [hcl']) (by omega)
  rw [this, ho'.kindC.1]
 have hsr := ZK hs.items 32 hso
 by_cases c9 : (resN D.items 32 o).kind = 9
 ·have e : resD D.items o = O.none := by unfold resD; rw [if_pos c9]
  simp -implicitDefEqProofs (disch := omega) only [allW, zn, Nat.reduceLT, Nat.reduceEqDiff, ↓reduceIte, hn, h3, h4, of0, lk, c9, bO0]
  refine zi szO (by decide) htn rfl rfl rfl rfl ?_
  intro t3 ht3' nt3 et3
  simp -implicitDefEqProofs (disch := omega) only [allW, zj, zh, Nat.reduceLT, Nat.reduceEqDiff, ↓reduceIte, hn, h4, zd.loadO ht3' rfl, zy, Try.results36]
  rw [e]
  exact ⟨zG, rfl, OIs.none _ _, hst.trans ⟨by omega, fun j hj => et3 j (by omega)⟩⟩
 ·have e : resD D.items o = resN D.items 32 o := by unfold resD; rw [if_neg c9]
  simp -implicitDefEqProofs (disch := omega) only [allW, Nat.reduceLT, Nat.reduceEqDiff, ↓reduceIte, hn, h3, h4, of0, lk, eq_false c9, zd.loadO htc hcl']
  refine zi szO (by decide) htn rfl rfl hcl' ho'.ok ?_
  intro t3 ht3' nt3 et3
  simp -implicitDefEqProofs (disch := omega) only [allW, zj, zh, Nat.reduceLT, Nat.reduceEqDiff, ↓reduceIte, hn, h4, zd.loadO ht3' hcl', zy, Try.results36]
  rw [e]
  exact ⟨cs', rfl, (ho'.ofPut nt3 et3 (fun h => by rcases h with h | h <;> omega)).mono (fun j hj => hj.elim (fun h => .inl h.1) (fun h => .inr (by omega))), hst.trans ⟨by omega, fun j hj => et3 j (by omega)⟩⟩
theorem jO {lib : zm} (hl : lib.at 36 = none) (hlf : lib.at 55 = none) (F : Nat -> Prop) (s : ASt) (D : Dc) (mv : Value) (tc : List Value) (iv : Value) (ic : List Value) (hD : ye F s mv tc iv ic D) (hs : yN D) (cs : List Value) (o : O) (ho : OIs F s cs o) (hso : zu o) :
  Runs Try.prog lib 36 [.agg (docC D mv tc iv).toArray, .agg cs.toArray] s (RObj F s (resD D.items o)) := YW hl hlf F s D mv tc iv ic hD hs cs o ho hso.fit
set_option maxHeartbeats 4000000 in
theorem aal {lib : zm} (hl : lib.at 44 = none) (hlr : lib.at 24 = none) (hlg : lib.at 25 = none) (hle : lib.at 43 = none) (hlf : lib.at 40 = none) (hli : lib.at 59 = none) (hlc : lib.at 60 = none) (hcp : lib.at 42 = none) (hcl : lib.at 61 = none) (hno : lib.at 41 = none) (F : Nat -> Prop) (s : ASt) (D : Dc) (mv : Value) (tc : List Value) (iv : Value) (ic : List Value) (hD : ye F s mv tc iv ic D) (hs : yN D) (G : Nat -> Prop) (cs : List Value) (o : O) (ho : OIs G s cs o) (hso : zu o) (x : Value) (K : List (List UInt8)) (hx : Sees s 1 x K.length (strs K)) (hK : K.length ≤ 1000) (hsg : ∀ (o : O) (k : List UInt8), zu o -> zu (getO o k)) :
  Runs Try.prog lib 44 [.agg (docC D mv tc iv).toArray, .agg cs.toArray, x] s (NewO s (xF D.items (resD D.items o) K)) := by
 have htl := hD.trailer.len
 have hol := ho.len
 have dl := xh (D := D) (mv := mv) (iv := iv) htl
 refine Runs.enter 25 Try.func44 rfl hl rfl rfl ?_
 intro f hn hf
 have h0 : f.get 0 = .agg (docC D mv tc iv).toArray := hf 0
 have h1 : f.get 1 = .agg cs.toArray := hf 1
 have h2 : f.get 2 = x := hf 2
 clear hf
 simp -implicitDefEqProofs (disch := omega) only [allW, Nat.reduceLT, ↓reduceIte, hn, h0]
 refine ze ?_
 intro s1 ht1 hst1 hnx1
 have ht1 : zd s1 s.next (docC D mv tc iv) := ht1
 simp -implicitDefEqProofs (disch := omega) only [allW, Nat.reduceLT, Nat.reduceEqDiff, Nat.reduceAdd, ↓reduceIte, hn, h1, dl]
 refine ze ?_
 intro s2 ht2 hst2 hnx2
 have ht2 : zd s2 s1.next cs := ht2
 simp -implicitDefEqProofs (disch := omega) only [allW, Nat.reduceLT, Nat.reduceAdd, ↓reduceIte, hn, hol, zO, plO]
 refine ze ?_
 intro s3 ht3 hst3 hnx3
 have n1 := hst1.next
 have n2 := hst2.next
 have n3 := hst3.next
 have hs2 : Stay s.next s s2 := hst1.trans (hst2.weaken n1)
 have hs3 : Stay s.next s s3 := hs2.trans (hst3.weaken (by omega))
 have ht13 := ht1.keeps (hst2.trans (hst3.weaken n2))
 have ht23 := ht2.keeps hst3
 have hd6 : zG.length + 1 = 6 := rfl
 simp -implicitDefEqProofs (disch := omega) only [allW, allR, zc, Nat.reduceLT, Nat.reduceEqDiff, ↓reduceIte, hn, hd6, xC ht13 htl, zd.loadO ht23 hol]
 refine (qC hlr hlf hli hlc hcp hcl hno _ s3 D mv tc iv ic (hD.lows.keeps hs3) hs _ cs o (ho.lows.keeps hs3) hso).mono ?_
 rintro _ s4 ⟨c4, rfl, ho4, k4⟩
 have n4 := k4.next
 simp -implicitDefEqProofs (disch := omega) only [allW, Nat.reduceLT, Nat.reduceEqDiff, ↓reduceIte, hn]
 refine zi szO (by decide) (ht23.keeps k4) hol rfl ho4.len ho4.ok ?_
 intro s5 ht5 nt5 et5
 have ht5 : zd s5 s1.next c4 := ht5
 have hs5 : Stay s.next s s5 := (hs3.trans (k4.weaken (by omega))).trans ⟨by omega, fun j hj => et5 j (by omega)⟩
 have hx5 := hx.keeps hs5
 simp -implicitDefEqProofs (disch := omega) only [allW, zc, Nat.reduceLT, Nat.reduceEqDiff, ↓reduceIte, hn, h2, hx5.lenA Try.underlying109]
 refine yf.loopOut (fun z f t => ∃ (i : Nat) (o' : O) (cs' : List Value), z = K.length - i ∧ i ≤ K.length ∧ xF D.items (resD D.items o) K = xF D.items o' (K.drop i) ∧ zu o' ∧ OIs (fun j => s3.next ≤ j) t cs' o' ∧ zd t s1.next cs' ∧ zd t s.next (docC D mv tc iv) ∧ zd t s2.next zG ∧ Stay s.next s t ∧ s3.next ≤ t.next ∧ f.n = 25 ∧ f.get 3 = .pointer (some ⟨s.next, 0, some 10⟩) ∧ f.get 4 = .pointer (some ⟨s1.next, 0, some 6⟩) ∧ f.get 6 = .pointer (some ⟨s2.next, 0, some 6⟩) ∧ f.get 12 = x ∧ f.get 13 = .int .i64 (K.length : Nat) ∧ f.get 14 = .int .i64 (i : Nat))
  (fun z f t => z = .exit 0 ∧ ∃ cs' : List Value, OIs (fun j => s3.next ≤ j) t cs' (xF D.items (resD D.items o) K) ∧ zd t s1.next cs' ∧ zd t s2.next zG ∧ Stay s.next s t ∧ s3.next ≤ t.next ∧ f.n = 25 ∧ f.get 4 = .pointer (some ⟨s1.next, 0, some 6⟩) ∧ f.get 6 = .pointer (some ⟨s2.next, 0, some 6⟩))
  ⟨0, resD D.items o, c4, rfl, by omega, rfl, xG hs.items hso, ho4.ofPut nt5 et5 (by omega), ht5, (ht13.keeps k4).ofPut nt5 et5 (by omega), (ht3.keeps k4).ofPut nt5 et5 (by omega), hs5, by omega, by simp only [zf, hn], by simp only [za, ↓reduceIte, Nat.reduceEqDiff], by simp only [za, ↓reduceIte, Nat.reduceEqDiff], by simp only [za, ↓reduceIte, Nat.reduceEqDiff], by simp only [za, ↓reduceIte, Nat.reduceEqDiff], by simp only [za, ↓reduceIte, Nat.reduceEqDiff], by simp only [za, ↓reduceIte]; rfl⟩ ?_ ?_
 ·clear hn h0 h1 h2 f
  rintro Q hQ z f t ⟨i, o', cs', rfl, hi, hp, hso', ho', htc, htd, htn, hst, hnt, hn, h3, h4, h6, h12, h13, h14⟩
  have hcl' := ho'.len
  by_cases hlt : i < K.length
  rotate_left
  ·obtain rfl : i = K.length := by omega
   have d1 : ¬ ((K.length : Nat) : Int) < ((K.length : Nat) : Int) := by omega
   rw [List.drop_length] at hp
   have hp : _ = o' := hp
   simp -implicitDefEqProofs (disch := omega) only [allW, Nat.reduceLT, ↓reduceIte, hn, h13, h14, eq_false d1]
   exact hQ _ _ _ ⟨rfl, cs', by rw [hp]; exact ho', htc, htn, hst, hnt, by simp only [zf, hn], by simp only [za, ↓reduceIte, Nat.reduceEqDiff, h4], by simp only [za, ↓reduceIte, Nat.reduceEqDiff, h6]⟩
  have d1 : (i : Int) < (K.length : Int) := by omega
  have hxt := hx.keeps hst
  have hix := hxt.indexAddr (P := Try.prog) (k := .i64) (x := (i : Int)) Try.underlying109 jf (by omega) (by omega)
  rw [Int.toNat_natCast] at hix
  have hld := hxt.load1 (P := Try.prog) xy hlt
  rw [ZE hlt] at hld
  simp -implicitDefEqProofs (disch := omega) only [allW, Nat.reduceLT, Nat.reduceEqDiff, ↓reduceIte, hn, h12, h13, h14, eq_true d1, hix, hld]
  obtain ⟨B, hB⟩ : ∃ B : Nat -> Bool, B = fun j => decide (j < t.next) := ⟨_, rfl⟩
  have hBl : ∀ j, B j = true -> j < t.next := by
   intro j h
   rw [hB] at h
   exact of_decide_eq_true h
  have hBo : ∀ j, j < t.next -> B j = true := fun j h => by rw [hB]; exact decide_eq_true h
  refine LB.Drawn.looseK B hBl 1 0 (by kernel_rfl) (by kernel_rfl) ?_
  have hsq := Stay.spare t 0
  have hnq : (spare t 0).next = t.next + 0 := zH _ _
  have ml1 : ∀ k, LA.lowV B (some (.pointer (some ⟨s.next, k, some 10⟩))) = true := fun k => LA.lowV_ptr (A := B) (i := s.next) (hBo _ htd.lt)
  have ml2 : ∀ k, LA.lowV B (some (.pointer (some ⟨s1.next, k, some 6⟩))) = true := fun k => LA.lowV_ptr (A := B) (i := s1.next) (hBo _ htc.lt)
  have hDt := hD.lows.keeps hst
  simp -implicitDefEqProofs (disch := omega) only [allW, allR, allL, allB, Nat.sub_self, Nat.reduceSub, zc, Nat.reduceLT, Nat.reduceEqDiff, ↓reduceIte, hn, h3, h4, xC (htd.keeps hsq) htl, zd.loadO (htc.keeps hsq) hcl', ml1, ml2, hDt.self, ho'.self]
  refine (Qq hlg hle hcp hcl hno _ (spare t 0) cs' o' (ho'.keeps hsq) hso' K[i]).mono ?_
  rintro _ t2 ⟨c2, rfl, ho2, k2⟩
  have m2 := k2.next
  refine ⟨fun _ => LA.Stay.toA hBl (k2.weaken (by omega)), ?_⟩
  have k02 : Stay t.next t t2 := hsq.trans (k2.weaken (by omega))
  try simp -implicitDefEqProofs (disch := omega) only [allW, allR, allL, allB, Nat.sub_self, Nat.add_one_sub_one, Nat.reduceSub, zh, zc, zn, optA, Nat.reduceLT, Nat.reduceLeDiff, Nat.reduceEqDiff, Nat.reduceAdd, ↓reduceIte, hn, h3, h4, h6, h12, h13, h14, ho2.self]
  refine (qC hlr hlf hli hlc hcp hcl hno _ t2 D mv tc iv ic (hDt.keeps k02) hs _ c2 _ ho2 (hsg _ _ hso')).mono ?_
  rintro _ t3 ⟨c3, rfl, ho3, k3⟩
  have m3 := k3.next
  refine ⟨fun h => h.elim, ?_⟩
  have k03 : Stay t.next t t3 := k02.trans (k3.weaken (by omega))
  try simp -implicitDefEqProofs (disch := omega) only [allW, allR, allL, allB, Nat.sub_self, Nat.add_one_sub_one, Nat.reduceSub, zh, zc, zn, optA, Nat.reduceLT, Nat.reduceLeDiff, Nat.reduceEqDiff, Nat.reduceAdd, ↓reduceIte, hn, h3, h4, h6, h12, h13, h14, ho3.self]
  refine LB.sstep_storeAll szO (by decide) (htc.keeps k03) hcl' rfl (by simpa using ho3.len) ho3.ok (fun h => absurd rfl h) ?_
  intro t4 ht4' nt4 et4
  have ht4' : zd t4 s1.next c3 := ht4'
  simp -implicitDefEqProofs (disch := omega) only [allW, allB, Nat.reduceSub, Nat.reduceLT, Nat.reduceEqDiff, ↓reduceIte, allW, Nat.reduceLT, Nat.reduceEqDiff, ↓reduceIte, hn, h14, zR]
  have e : xF D.items (resD D.items o) K = xF D.items (resD D.items (getO o' K[i])) (K.drop (i + 1)) := by
   rw [hp, List.drop_eq_getElem_cons hlt]; rfl
  exact zz (K.length - (i + 1)) (by omega) ⟨i + 1, _, c3, rfl, by omega, e, xG hs.items (hsg _ _ hso'), (ho3.ofPut nt4 et4 (by omega)).mono (fun j (hj : _ ≤ j) => by omega), ht4', (htd.keeps k03).ofPut nt4 et4 (by omega), (htn.keeps k03).ofPut nt4 et4 (by omega), (hst.trans (k03.weaken (by omega))).trans ⟨by omega, fun j hj => et4 j (by omega)⟩, by omega, by simp only [zf, hn], by simp only [za, ↓reduceIte, Nat.reduceEqDiff, h3], by simp only [za, ↓reduceIte, Nat.reduceEqDiff, h4], by simp only [za, ↓reduceIte, Nat.reduceEqDiff, h6], by simp only [za, ↓reduceIte, Nat.reduceEqDiff, h12], by simp only [za, ↓reduceIte, Nat.reduceEqDiff, h13], by simp only [za, ↓reduceIte]; rfl⟩
 clear hn h0 h1 h2 f
 rintro z f t ⟨rfl, cs', ho', htc, htn, hst, hnt, hn, h4, h6⟩
 have hcl' := ho'.len
 simp -implicitDefEqProofs (disch := omega) only [allW, Nat.reduceLT, Nat.reduceEqDiff, ↓reduceIte, hn, h4, h6, zd.loadO htc hcl']
 refine zi szO (by decide) htn rfl rfl hcl' ho'.ok ?_
 intro t3 ht3' nt3 et3
 simp -implicitDefEqProofs (disch := omega) only [allW, zj, zh, Nat.reduceLT, Nat.reduceEqDiff, ↓reduceIte, hn, h6, zd.loadO ht3' hcl', zy, Try.results44]
 exact ⟨cs', rfl, (ho'.ofPut nt3 et3 (by omega)).mono (fun j (hj : _ ≤ j) => by omega), hst.trans ⟨by omega, fun j hj => et3 j (by omega)⟩⟩
set_option maxHeartbeats 4000000 in
theorem SA {lib : zm} (hl : lib.at 32 = none) (hlr : lib.at 36 = none) (hlg : lib.at 33 = none) (hlh : lib.at 51 = none) (hcp : lib.at 29 = none) (hcl : lib.at 49 = none) (hlf : lib.at 55 = none) (F : Nat -> Prop) (s : ASt) (D : Dc) (mv : Value) (tc : List Value) (iv : Value) (ic : List Value) (hD : ye F s mv tc iv ic D) (hs : yN D) (cs : List Value) (o : O) (ho : OIs F s cs o) (hso : zu o) (x : Value) (K : List (List UInt8)) (hx : Sees s 1 x K.length (strs K)) (hK : K.length ≤ 1000) (hsg : ∀ (o : O) (k : List UInt8), zu o -> zu (getO o k)) :
  Runs Try.prog lib 32 [.agg (docC D mv tc iv).toArray, .agg cs.toArray, x] s (RObj F s (xF D.items (resD D.items o) K)) := by
 have htl := hD.trailer.len
 have hol := ho.len
 have dl := xh (D := D) (mv := mv) (iv := iv) htl
 refine Runs.enter 26 Try.func32 rfl hl rfl rfl ?_
 intro f hn hf
 have h0 : f.get 0 = .agg (docC D mv tc iv).toArray := hf 0
 have h1 : f.get 1 = .agg cs.toArray := hf 1
 have h2 : f.get 2 = x := hf 2
 clear hf
 simp -implicitDefEqProofs (disch := omega) only [allW, Nat.reduceLT, ↓reduceIte, hn, h0]
 refine ze ?_
 intro s1 ht1 hst1 hnx1
 have ht1 : zd s1 s.next (docC D mv tc iv) := ht1
 simp -implicitDefEqProofs (disch := omega) only [allW, Nat.reduceLT, Nat.reduceEqDiff, Nat.reduceAdd, ↓reduceIte, hn, h1, dl]
 refine ze ?_
 intro s2 ht2 hst2 hnx2
 have ht2 : zd s2 s1.next cs := ht2
 simp -implicitDefEqProofs (disch := omega) only [allW, Nat.reduceLT, Nat.reduceAdd, ↓reduceIte, hn, hol, zO, plO]
 refine ze ?_
 intro s3 ht3 hst3 hnx3
 have n1 := hst1.next
 have n2 := hst2.next
 have n3 := hst3.next
 have hs2 : Stay s.next s s2 := hst1.trans (hst2.weaken n1)
 have hs3 : Stay s.next s s3 := hs2.trans (hst3.weaken (by omega))
 have ht13 := ht1.keeps (hst2.trans (hst3.weaken n2))
 have ht23 := ht2.keeps hst3
 have hd6 : zG.length + 1 = 6 := rfl
 simp -implicitDefEqProofs (disch := omega) only [allW, allR, zc, Nat.reduceLT, Nat.reduceEqDiff, ↓reduceIte, hn, hd6, xC ht13 htl, zd.loadO ht23 hol]
 refine (jO hlr hlf _ s3 D mv tc iv ic (hD.lows.keeps hs3) hs cs o (ho.lows.keeps hs3) hso).mono ?_
 rintro _ s4 ⟨c4, rfl, ho4, k4⟩
 have n4 := k4.next
 simp -implicitDefEqProofs (disch := omega) only [allW, Nat.reduceLT, Nat.reduceEqDiff, ↓reduceIte, hn]
 refine zi szO (by decide) (ht23.keeps k4) hol rfl ho4.len ho4.ok ?_
 intro s5 ht5 nt5 et5
 have ht5 : zd s5 s1.next c4 := ht5
 have hs5 : Stay s.next s s5 := (hs3.trans (k4.weaken (by omega))).trans ⟨by omega, fun j hj => et5 j (by omega)⟩
 simp -implicitDefEqProofs (disch := omega) only [allW, Nat.reduceLT, ↓reduceIte, hn]
 refine yf.loopOut (fun z f t => ∃ (i : Nat) (o' : O) (cs' : List Value), z = K.length - i ∧ i ≤ K.length ∧ xF D.items (resD D.items o) K = xF D.items o' (K.drop i) ∧ zu o' ∧ OIs (fun j => (F j ∧ j < s.next) ∨ s3.next ≤ j) t cs' o' ∧ zd t s1.next cs' ∧ zd t s.next (docC D mv tc iv) ∧ zd t s2.next zG ∧ Stay s.next s t ∧ s3.next ≤ t.next ∧ f.n = 26 ∧ f.get 3 = .pointer (some ⟨s.next, 0, some 10⟩) ∧ f.get 4 = .pointer (some ⟨s1.next, 0, some 6⟩) ∧ f.get 6 = .pointer (some ⟨s2.next, 0, some 6⟩) ∧ f.get 2 = x ∧ f.get 7 = .int .i64 (i : Nat))
  (fun z f t => z = .exit 0 ∧ ∃ cs' : List Value, OIs (fun j => (F j ∧ j < s.next) ∨ s3.next ≤ j) t cs' (xF D.items (resD D.items o) K) ∧ zd t s1.next cs' ∧ zd t s2.next zG ∧ Stay s.next s t ∧ s3.next ≤ t.next ∧ f.n = 26 ∧ f.get 4 = .pointer (some ⟨s1.next, 0, some 6⟩) ∧ f.get 6 = .pointer (some ⟨s2.next, 0, some 6⟩))
  ⟨0, resD D.items o, c4, rfl, by omega, rfl, xG hs.items hso, (ho4.ofPut nt5 et5 (fun h => by rcases h with h | h <;> omega)), ht5, (ht13.keeps k4).ofPut nt5 et5 (by omega), (ht3.keeps k4).ofPut nt5 et5 (by omega), hs5, by omega, by simp only [zf, hn], by simp only [za, ↓reduceIte, Nat.reduceEqDiff], by simp only [za, ↓reduceIte, Nat.reduceEqDiff], by simp only [za, ↓reduceIte, Nat.reduceEqDiff], by simp only [za, ↓reduceIte, Nat.reduceEqDiff, h2], by simp only [za, ↓reduceIte]; rfl⟩ ?_ ?_
 ·clear hn h0 h1 h2 f
  rintro Q hQ z f t ⟨i, o', cs', rfl, hi, hp, hso', ho', htc, htd, htn, hst, hnt, hn, h3, h4, h6, h2, h7⟩
  have hcl' := ho'.len
  have hxt := hx.keeps hst
  by_cases hlt : i < K.length
  rotate_left
  ·obtain rfl : i = K.length := by omega
   have d1 : ¬ ((K.length : Nat) : Int) < ((K.length : Nat) : Int) := by omega
   rw [List.drop_length] at hp
   have hp : _ = o' := hp
   simp -implicitDefEqProofs (disch := omega) only [allW, zc, Nat.reduceLT, Nat.reduceEqDiff, ↓reduceIte, hn, h2, h7, hxt.lenA Try.underlying109, eq_false d1]
   exact hQ _ _ _ ⟨rfl, cs', by rw [hp]; exact ho', htc, htn, hst, hnt, by simp only [zf, hn], by simp only [za, ↓reduceIte, Nat.reduceEqDiff, h4], by simp only [za, ↓reduceIte, Nat.reduceEqDiff, h6]⟩
  have d1 : (i : Int) < (K.length : Int) := by omega
  have hix := hxt.indexAddr (P := Try.prog) (k := .i64) (x := (i : Int)) Try.underlying109 jf (by omega) (by omega)
  rw [Int.toNat_natCast] at hix
  simp -implicitDefEqProofs (disch := omega) only [allW, zc, Nat.reduceLT, Nat.reduceEqDiff, ↓reduceIte, hn, h2, h7, hxt.lenA Try.underlying109, eq_true d1]
  obtain ⟨B, hB⟩ : ∃ B : Nat -> Bool, B = fun j => decide (j < t.next) := ⟨_, rfl⟩
  have hBl : ∀ j, B j = true -> j < t.next := by
   intro j h
   rw [hB] at h
   exact of_decide_eq_true h
  have hBo : ∀ j, j < t.next -> B j = true := fun j h => by rw [hB]; exact decide_eq_true h
  refine LB.Drawn.looseK B hBl 1 0 (by kernel_rfl) (by kernel_rfl) ?_
  have hsq := Stay.spare t 0
  have hnq : (spare t 0).next = t.next + 0 := zH _ _
  have ml1 : ∀ k, LA.lowV B (some (.pointer (some ⟨s.next, k, some 10⟩))) = true := fun k => LA.lowV_ptr (A := B) (i := s.next) (hBo _ htd.lt)
  have ml2 : ∀ k, LA.lowV B (some (.pointer (some ⟨s1.next, k, some 6⟩))) = true := fun k => LA.lowV_ptr (A := B) (i := s1.next) (hBo _ htc.lt)
  have hDt := hD.lows.keeps hst
  have hxq := hxt.keeps hsq
  have hldq := hxq.load1 (P := Try.prog) xy hlt
  rw [ZE hlt] at hldq
  simp -implicitDefEqProofs (disch := omega) only [allW, allR, allL, allB, Nat.sub_self, Nat.reduceSub, zc, Nat.reduceLT, Nat.reduceEqDiff, ↓reduceIte, hn, h3, h4, h2, h7, xC (htd.keeps hsq) htl, zd.loadO (htc.keeps hsq) hcl', ml1, ml2, hDt.self, ho'.self, hxt.self, hix, hldq, LA.lowV_elemOld hxt hBo hlt]
  refine (KG hlg hlh hcp hcl _ (spare t 0) cs' o' (ho'.keeps hsq) hso' K[i]).mono ?_
  rintro _ t2 ⟨c2, rfl, ho2, k2⟩
  have m2 := k2.next
  refine ⟨fun _ => LA.Stay.toA hBl (k2.weaken (by omega)), ?_⟩
  have k02 : Stay t.next t t2 := hsq.trans (k2.weaken (by omega))
  try simp -implicitDefEqProofs (disch := omega) only [allW, allR, allL, allB, Nat.sub_self, Nat.add_one_sub_one, Nat.reduceSub, zh, zc, zn, optA, Nat.reduceLT, Nat.reduceLeDiff, Nat.reduceEqDiff, Nat.reduceAdd, ↓reduceIte, hn, h3, h4, h6, h2, h7, ho2.self]
  refine (jO hlr hlf (fun j => (F j ∧ j < s.next) ∨ t.next ≤ j) t2 D mv tc iv ic ((hDt.keeps k02).mono (fun j h => .inl h)) hs c2 _ (ho2.mono (fun j (hj : _ ≤ j) => .inr (by omega))) (hsg _ _ hso')).mono ?_
  rintro _ t3 ⟨c3, rfl, ho3, k3⟩
  have m3 := k3.next
  refine ⟨fun h => h.elim, ?_⟩
  have k03 : Stay t.next t t3 := k02.trans (k3.weaken (by omega))
  try simp -implicitDefEqProofs (disch := omega) only [allW, allR, allL, allB, Nat.sub_self, Nat.add_one_sub_one, Nat.reduceSub, zh, zc, zn, optA, Nat.reduceLT, Nat.reduceLeDiff, Nat.reduceEqDiff, Nat.reduceAdd, ↓reduceIte, hn, h3, h4, h6, h2, h7, ho3.self]
  refine LB.sstep_storeAll szO (by decide) (htc.keeps k03) hcl' rfl (by simpa using ho3.len) ho3.ok (fun h => absurd rfl h) ?_
  intro t4 ht4' nt4 et4
  have ht4' : zd t4 s1.next c3 := ht4'
  simp -implicitDefEqProofs (disch := omega) only [allW, allB, Nat.reduceSub, Nat.reduceLT, Nat.reduceEqDiff, ↓reduceIte, allW, Nat.reduceLT, Nat.reduceEqDiff, ↓reduceIte, hn, h7, zR]
  have e : xF D.items (resD D.items o) K = xF D.items (resD D.items (getO o' K[i])) (K.drop (i + 1)) := by
   rw [hp, List.drop_eq_getElem_cons hlt]; rfl
  exact zz (K.length - (i + 1)) (by omega) ⟨i + 1, _, c3, rfl, by omega, e, xG hs.items (hsg _ _ hso'), (ho3.ofPut nt4 et4 (fun h => by rcases h with (h | h) | h <;> omega)).mono (fun j hj => Or.elim hj (fun h => Or.elim h (fun h => .inl h) (fun (h : _ ≤ j) => .inr (by omega))) (fun (h : _ ≤ j) => .inr (by omega))), ht4', (htd.keeps k03).ofPut nt4 et4 (by omega), (htn.keeps k03).ofPut nt4 et4 (by omega), (hst.trans (k03.weaken (by omega))).trans ⟨by omega, fun j hj => et4 j (by omega)⟩, by omega, by simp only [zf, hn], by simp only [za, ↓reduceIte, Nat.reduceEqDiff, h3], by simp only [za, ↓reduceIte, Nat.reduceEqDiff, h4], by simp only [za, ↓reduceIte, Nat.reduceEqDiff, h6], by simp only [za, ↓reduceIte, Nat.reduceEqDiff, h2], by simp only [za, ↓reduceIte]; rfl⟩
 clear hn h0 h1 h2 f
 rintro z f t ⟨rfl, cs', ho', htc, htn, hst, hnt, hn, h4, h6⟩
 have hcl' := ho'.len
 simp -implicitDefEqProofs (disch := omega) only [allW, Nat.reduceLT, Nat.reduceEqDiff, ↓reduceIte, hn, h4, h6, zd.loadO htc hcl']
 refine zi szO (by decide) htn rfl rfl hcl' ho'.ok ?_
 intro t3 ht3' nt3 et3
 simp -implicitDefEqProofs (disch := omega) only [allW, zj, zh, Nat.reduceLT, Nat.reduceEqDiff, ↓reduceIte, hn, h6, zd.loadO ht3' hcl', zy, Try.results32]
 exact ⟨cs', rfl, (ho'.ofPut nt3 et3 (fun h => by rcases h with h | h <;> omega)).mono (fun j hj => hj.elim (fun h => .inl h.1) (fun h => .inr (by omega))), hst.trans ⟨by omega, fun j hj => et3 j (by omega)⟩⟩
end Go.Proofs.Ytokfoagohblkoaa