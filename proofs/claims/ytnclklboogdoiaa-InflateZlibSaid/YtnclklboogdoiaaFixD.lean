/-
  Deflate by the fixed codes, read by the reference: bits, symbols.
-/
import Derived.Test.YtnclklboogdoiaaInfl2
import Derived.Test.YtnclklboogdoiaaFixZ
import Derived.Test.YtnclklboogdoiaaFixB
set_option linter.unusedSimpArgs false
set_option linter.unusedVariables false
set_option maxRecDepth 100000
namespace Go.Cl.Fx
open Go.Cl.Rw Go.Cl.Sto
structure FTo (jf jb : Nat) (o : Value) (s : ASt) (o' : Value) (s' : ASt) : Prop where
  next : s.next ≤ s'.next
  get : ∀ i, i < s.next → i ≠ jf → i ≠ jb → idOf o ≠ some i → s'.heap.get i = s.heap.get i
  id : idOf o' = idOf o ∨ ∃ i, idOf o' = some i ∧ s.next ≤ i
theorem FTo.refl (jf jb : Nat) (o : Value) (s : ASt) : FTo jf jb o s o s := ⟨Nat.le_refl _, fun _ _ _ _ _ => rfl, .inl rfl⟩
theorem FTo.trans {jf jb : Nat} {o o' o'' : Value} {s s' s'' : ASt} (h : FTo jf jb o s o' s') (k : FTo jf jb o' s' o'' s'') : FTo jf jb o s o'' s'' := by
  refine ⟨Nat.le_trans h.next k.next, fun i hi h1 h2 h3 => ?_, ?_⟩
  · rw [k.get i (Nat.lt_of_lt_of_le hi h.next) h1 h2 ?_, h.get i hi h1 h2 h3]
    rcases h.id with e | ⟨q, e, hq⟩
    · rw [e]; exact h3
    · rw [e]; intro q2; injection q2 with q2; omega
  · rcases k.id with e | ⟨q, e, hq⟩
    · rcases h.id with e2 | ⟨q, e2, hq⟩
      · exact .inl (by rw [e, e2])
      · exact .inr ⟨q, by rw [e, e2], hq⟩
    · exact .inr ⟨q, e, Nat.le_trans h.next hq⟩
theorem FTo.stay {jf jb base : Nat} {o o' : Value} {s s' : ASt} (h : FTo jf jb o s o' s') (h1 : base ≤ jf) (h2 : base ≤ jb) (h3 : Fresh base o) (hb : base ≤ s.next) : Stay base s s' :=
  ⟨h.next, fun i hi => h.get i (by omega) (by omega) (by omega) (fun e => by have := h3 i e; omega)⟩
def ApartF (jf jb : Nat) (o a : Value) : Prop := ∀ i, idOf a = some i → i ≠ jf ∧ i ≠ jb ∧ idOf o ≠ some i
theorem ApartF.own {jf jb : Nat} {o o' a : Value} {s s' : ASt} {n : Nat} {L : List Value} (h : ApartF jf jb o a) (ho : Own s 1 a n L) (k : FTo jf jb o s o' s') : Own s' 1 a n L ∧ ApartF jf jb o' a := by
  refine ⟨?_, fun i hi => ⟨(h i hi).1, (h i hi).2.1, ?_⟩⟩
  · cases ho with
    | nil => exact .nil
    | of i n low l hi hb hl hlen =>
      have := h i rfl
      refine .of i _ low _ (Nat.lt_of_lt_of_le hi k.next) ?_ hl hlen
      simp only [ASt.blk?, k.get i hi this.1 this.2.1 this.2.2]; exact hb
  · rcases k.id with e | ⟨q, e, hq⟩
    · rw [e]; exact (h i hi).2.2
    · rw [e]; intro e2; injection e2 with e2; have := ho.idlt i hi; omega
theorem hi_lt (D : List UInt8) (a : Nat) : ∀ k, hi D a k < 2 ^ k
  | 0 => by simp [hi]
  | k + 1 => by
    have h1 := hi_lt D a k
    have h2 := bit_lt D (a + k)
    simp only [hi]
    rw [Nat.pow_succ]; omega
theorem bitsN_one (D : List UInt8) (a : Nat) : bitsN D a 1 = bit D a := by simp [bitsN]
theorem orTwo {x b : Nat} (hx : x < 1000000) (hb : b < 2) : IntKind.i64.wrap (((BitVec.ofInt IntKind.i64.bits ((x * 2 ^ 1 : Nat) : Int) ||| BitVec.ofInt IntKind.i64.bits (b : Int)).toNat : Nat) : Int) = ((2 * x + b : Nat) : Int) := by
  have e1 : IntKind.i64.bits = 64 := rfl
  rw [e1]
  have : (BitVec.ofInt 64 ((x * 2 ^ 1 : Nat) : Int) ||| BitVec.ofInt 64 (b : Int)).toNat = 2 * x + b := by
    rw [BitVec.toNat_or, BitVec.ofInt_natCast, BitVec.ofInt_natCast, BitVec.toNat_ofNat, BitVec.toNat_ofNat, Nat.mod_eq_of_lt (by omega), Nat.mod_eq_of_lt (by omega)]
    have := Nat.shiftLeft_add_eq_or_of_lt (i := 1) (b := b) (by omega) x
    rw [Nat.shiftLeft_eq] at this
    rw [← this]; omega
  rw [this, wrapI (by omega)]
theorem shlT (P : Program) (t : TypeId) (k' : IntKind) {x : Nat} (hx : x < 1000000) : binA P .shl t (.int .i64 ((x : Nat) : Int)) (.int k' 1) = some (.int .i64 ((x * 2 ^ 1 : Nat) : Int)) := by
  rw [bin_shl P t .i64 _ _ k' (by omega)]
  have e : min (1 : Int).toNat IntKind.i64.bits = 1 := by decide
  rw [e]
  have e2 : ((x : Nat) : Int) * (2 : Int) ^ 1 = ((x * 2 ^ 1 : Nat) : Int) := by omega
  rw [e2, wrapI (by omega)]
end Go.Cl.Fx
namespace Go.Proofs.Ytnclklboogdoiaa
open Go.Cl Go.Cl.Rw Go.Cl.Sto Go.Cl.Fx
set_option maxRecDepth 100000 in
set_option maxHeartbeats 4000000 in
theorem takeT_any {lib : Prims} (hl : lib.at 32 = none) (base : Nat) (s : ASt) (jf jb : Nat) (D P : List UInt8) (p n : Nat) (M : Int) (bv o : Value) (h : Fl base s jf jb D p P M bv o) (hn16 : n ≤ 16) (hD : p + n ≤ 8 * D.length) (hDl : D.length ≤ 1000000000) :
    Runs Try.prog lib 32 [bptr jb, .int .i64 n] s fun v s' => v = .int .i64 (bitsN D p n : Nat) ∧ Fl base s' jf jb D (p + n) P M bv o ∧ FTo jf jb o s o s' := by
  refine Runs.enter 72 Try.func32 rfl hl rfl rfl ?_
  intro f hn hf
  have h0 : f.get 0 = bptr jb := hf 0
  have h1 : f.get 1 = .int .i64 n := hf 1
  clear hf
  have l0 := h.b.load (P := Try.prog) agSl (off := 0) (c := 4) rfl (by simp)
  have l1 := h.b.load (P := Try.prog) agInt (off := 1) (c := 4) rfl (by simp)
  have l2 := h.b.load (P := Try.prog) agInt (off := 2) (c := 4) rfl (by simp)
  have c1 : ¬ (8 * (D.length : Int) - (p : Int) < n) := by omega
  simp (config := { maxSteps := 1000000, implicitDefEqProofs := false }) (disch := omega) only [allW, allR, evalAll, Nat.reduceLT, Nat.reduceEqDiff, ↓reduceIte, hn, h0, h1, tfld0, tfld1, tfld2, l0, l1, l2, h.low.sees.lenA Try.underlying22, h.low.sees.self, wrapI, eq_false c1]
  refine Comes.loopAt (fun q f s' => ∃ (i : Nat), q = n - i ∧ i ≤ n ∧ Fl base s' jf jb D (p + i) P M bv o ∧ FTo jf jb o s o s' ∧ f.n = 72 ∧ f.get 0 = bptr jb ∧ f.get 1 = .int .i64 n ∧ f.get 5 = .int .i64 (bitsN D p i : Nat) ∧ f.get 6 = .int .i64 i)
    ⟨0, rfl, by omega, h, FTo.refl _ _ _ _, by simp only [n_put, hn], by simp only [get_put, ↓reduceIte, Nat.reduceEqDiff, h0], by simp only [get_put, ↓reduceIte, Nat.reduceEqDiff, h1], by simp only [get_put, ↓reduceIte, Nat.reduceEqDiff]; rfl, by simp only [get_put, ↓reduceIte]; rfl⟩ ?_
  clear hn h0 h1 f l0 l1 l2
  rintro q f s1 ⟨i, rfl, hi, h, hst, hn, h0, h1, h5, h6⟩
  by_cases hin : i < n
  · have hin' : (i : Int) < n := by omega
    have l0 := h.b.load (P := Try.prog) agSl (off := 0) (c := 4) rfl (by simp)
    have l1 := h.b.load (P := Try.prog) agInt (off := 1) (c := 4) rfl (by simp)
    have hm8 : (p + i) % 8 < 8 := Nat.mod_lt _ (by omega)
    have hlt : (p + i) / 8 < D.length := by omega
    have k1 := h.low.sees.load1 (P := Try.prog) agU8 hlt
    rw [ofBytes_getD hlt] at k1
    have hq : (D.getD ((p + i) / 8) 0).toNat / 2 ^ ((p + i) % 8) < 256 := Nat.lt_of_le_of_lt (Nat.div_le_self _ _) (D.getD ((p + i) / 8) 0).toNat_lt
    have hbit : (D.getD ((p + i) / 8) 0).toNat / 2 ^ ((p + i) % 8) % 2 = bit D (p + i) := rfl
    have hb2 := bit_lt D (p + i)
    have hv := bitsN_lt D p i
    have hrec : bitsN D p i + bit D (p + i) * 2 ^ i = bitsN D p (i + 1) := rfl
    have hi32 : i < 32 := by omega
    have hor := orI hv hb2 hi32
    rw [hrec] at hor
    have hidx := h.low.sees.indexAddr (k := .i64) (x := (((p + i) / 8 : Nat) : Int)) Try.underlying22 szU8 (by omega) (by omega)
    rw [Int.toNat_natCast] at hidx
    have hself := h.low.sees.self
    have hsh := shlI Try.prog 3 .u64 hb2 hi32
    simp (config := { maxSteps := 1000000, implicitDefEqProofs := false }) (disch := omega) only [allW, allR, Nat.reduceLT, Nat.reduceEqDiff, ↓reduceIte, hn, h0, h1, h5, h6, eq_true hin', tfld0, tfld1, l0, l1, hself, bin_quo, quo8, bin_rem, rem8, wrapI, hidx, k1, conv_int Try.underlying3 Try.underlying29, wrapu64x, shrB, bin_and, andB, hbit, conv_int Try.underlying5 Try.underlying3, hsh, bin_or, hor, Try.underlying3, Try.underlying29]
    refine wstep_store szInt h.b rfl (by simp) rfl ?_
    intro t2 hb3 hn2 hs2
    simp (config := { maxSteps := 1000000, implicitDefEqProofs := false }) (disch := omega) only [allW, Nat.reduceLT, Nat.reduceEqDiff, ↓reduceIte, hn, h6, wrapI]
    refine wround_next (n - (i + 1)) (by omega) ⟨i + 1, rfl, by omega, h.at (p' := p + (i + 1)) hb3 hn2 hs2, hst.trans ⟨by omega, fun q _ _ h2 _ => hs2 q h2, .inl rfl⟩, by simp only [n_put, hn], by simp only [get_put, ↓reduceIte, Nat.reduceEqDiff, h0], by simp only [get_put, ↓reduceIte, Nat.reduceEqDiff, h1], by simp only [get_put, ↓reduceIte, Nat.reduceEqDiff], by simp only [get_put, ↓reduceIte]; rfl⟩
  · obtain rfl : i = n := by omega
    have hin' : ¬ (i : Int) < i := by omega
    simp (config := { maxSteps := 1000000, implicitDefEqProofs := false }) (disch := omega) only [allW, wfn_ret, oneOf, Nat.reduceLT, Nat.reduceEqDiff, ↓reduceIte, hn, h1, h5, h6, eq_false hin', Try.results32]
    exact ⟨h, hst⟩
set_option maxRecDepth 100000 in
set_option maxHeartbeats 4000000 in
theorem fputT_any {lib : Prims} (hl : lib.at 57 = none) (base : Nat) (s : ASt) (jf jb : Nat) (D P : List UInt8) (p : Nat) (M : Int) (c : UInt8) (bv o : Value) (h : Fl base s jf jb D p P M bv o) (hM : (P.length : Int) < M) (hPl : P.length ≤ 1000000000) (hb : base ≤ s.next) :
    Runs Try.prog lib 57 [bptr jf, .int .u8 c.toNat] s fun _ s' => ∃ o', Fl base s' jf jb D p (P ++ [c]) M bv o' ∧ FTo jf jb o s o' s' := by
  refine Runs.enter 47 Try.func57 rfl hl rfl rfl ?_
  intro f hn hf
  have h0 : f.get 0 = bptr jf := hf 0
  have h1 : f.get 1 = .int .u8 c.toNat := hf 1
  clear hf
  have l2 := h.b.load (P := Try.prog) agInt (off := 2) (c := 4) rfl (by simp)
  have w0 := h.f.load (P := Try.prog) agBitsP (off := 0) (c := 4) rfl (by simp)
  have w1 := h.f.load (P := Try.prog) agSl (off := 1) (c := 4) rfl (by simp)
  have w2 := h.f.load (P := Try.prog) agInt (off := 2) (c := 4) rfl (by simp)
  have c1 : ¬ M ≤ (P.length : Int) := by omega
  simp (config := { maxSteps := 1000000, implicitDefEqProofs := false }) (disch := omega) only [allW, allR, evalAll, partsA, Nat.reduceLT, Nat.reduceEqDiff, ↓reduceIte, hn, h0, h1, tfld2, wfld0, wfld1, wfld2, l2, w0, w1, w2, h.own.sees.lenA Try.underlying22, h.own.self, eq_false c1, build1 Try.underlying22 szU8 zU8]
  refine wstep_append_lit Try.underlying22 szU8 byU8 zU8 rfl h.own (by simp only [get_put, ↓reduceIte, Nat.reduceEqDiff]) (by decide) (by simp only [n_put, hn]; decide) (by simp only [n_put, hn]; decide) (by rfl) (by decide) rfl (by omega) (by omega) h.fresh hb ?_
  intro bs o2 s2 ho2 hF2 hst2 ht2 hid2
  have hne : ∀ j, j < s.next → idOf o ≠ some j → idOf o2 ≠ some j := fun j hj hne => by
    rcases hid2 with e | ⟨i, e, hi⟩
    · rw [e]; exact hne
    · rw [e]; intro q; injection q with q; omega
  have hnb := hne jb h.b.lt h.nb
  have hnf := hne jf h.f.lt h.nf
  have hf2 := h.f.turns ht2 h.nf
  have hb2 := h.b.turns ht2 h.nb
  simp (config := { maxSteps := 1000000, implicitDefEqProofs := false }) (disch := omega) only [allW, Nat.reduceLT, Nat.reduceEqDiff, ↓reduceIte, hn, wfld1]
  refine wstep_store szSl hf2 rfl (by simp) ho2.sees.okCell ?_
  intro s3 hf3 hn3 hs3
  simp (config := { maxSteps := 1000000, implicitDefEqProofs := false }) (disch := omega) only [allW, wfn_normal, Try.results57]
  have hst3 := hst2.trans (Stay.ofPut hn3 hs3 h.lf)
  refine ⟨o2, ⟨hb2.turns (Turns.ofPut (i := jf) (o := 0) (c := none) hn3 hs3) (fun e => h.ne (by injection e with e; exact e.symm)), hf3, h.low.stay hst3, ?_, hF2, hnb, hnf, h.ne, h.lb, h.lf⟩, ⟨by have := ht2.next; omega, fun i hi h1 _ h3 => by rw [hs3 i h1, ht2.get i hi h3], hid2⟩⟩
  rw [ofBytes_append, List.length_append]
  exact ho2.ofPut hn3 hs3 hnf
end Go.Proofs.Ytnclklboogdoiaa
