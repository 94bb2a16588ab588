/-
  Bits that are read, and blocks of bytes as they are: the reference's reading where all is well.
-/
import Derived.Test.YtnclklboogdoiaaRow
import Derived.Test.YtnclklboogdoiaaStoP
set_option linter.unusedSimpArgs false
set_option linter.unusedVariables false
set_option maxRecDepth 100000
namespace Go.Proofs.Ytnclklboogdoiaa
open Go.Cl Go.Cl.Sto Go.Cl.Rw
abbrev bptr (j : Nat) : Value := .pointer (some ⟨j, 0, some 4⟩)
theorem szBitsP : sizeB Try.prog 58 = some 1 := by kernel_rfl
theorem agBitsP : isAggB Try.prog 58 = some false := by kernel_rfl
theorem tfld0 (i o c : Nat) : fieldAddrA Try.prog 60 (.pointer (some ⟨i, o, some c⟩)) 0 = some (.pointer (some ⟨i, o + 0, some c⟩)) := by
  unfold fieldAddrA; rw [Try.underlying60]; simp [szSl]
theorem tfld1 (i o c : Nat) : fieldAddrA Try.prog 60 (.pointer (some ⟨i, o, some c⟩)) 1 = some (.pointer (some ⟨i, o + 1, some c⟩)) := by
  unfold fieldAddrA; rw [Try.underlying60]; simp [szInt]
theorem tfld2 (i o c : Nat) : fieldAddrA Try.prog 60 (.pointer (some ⟨i, o, some c⟩)) 2 = some (.pointer (some ⟨i, o + 2, some c⟩)) := by
  unfold fieldAddrA; rw [Try.underlying60]; simp [szInt]
theorem wfld0 (i o c : Nat) : fieldAddrA Try.prog 62 (.pointer (some ⟨i, o, some c⟩)) 0 = some (.pointer (some ⟨i, o + 0, some c⟩)) := by
  unfold fieldAddrA; rw [Try.underlying62]; simp [szBitsP]
theorem wfld1 (i o c : Nat) : fieldAddrA Try.prog 62 (.pointer (some ⟨i, o, some c⟩)) 1 = some (.pointer (some ⟨i, o + 1, some c⟩)) := by
  unfold fieldAddrA; rw [Try.underlying62]; simp [szSl]
theorem wfld2 (i o c : Nat) : fieldAddrA Try.prog 62 (.pointer (some ⟨i, o, some c⟩)) 2 = some (.pointer (some ⟨i, o + 2, some c⟩)) := by
  unfold fieldAddrA; rw [Try.underlying62]; simp [szInt]
theorem vstep_store {P : Program} {lib : Prims} {all r : List Oper} {id : Nat} {f : AFr} {s : ASt} {d : Option Tmp} {Q : AFr → ASt → Prop} {e : TypeId} (hsz : sizeB P e = some 1) {i : Nat} {cs : List Value} (h : Thing s i cs) {off c : Nat} (hc : c = cs.length + 1) (ho : off < cs.length) {v : Value} (hv : okCell v = true)
    (K : ∀ s', Thing s' i (cs.set off v) → s'.next = s.next → (∀ j, j ≠ i → s'.heap.get j = s.heap.get j) → vcall P lib all r id f d Q undef s') : vstep P lib all r id f d s Q (uOf (storeA P s e (.pointer (some ⟨i, off, some c⟩)) v)) := by
  obtain ⟨s', h1, h2, h3, h4⟩ := h.store hsz hc ho hv
  rw [h1, uOf_some]
  exact K s' h2 h3 h4
/-- What is read, and what has come. -/
structure Fl (base : Nat) (s : ASt) (jf jb : Nat) (D : List UInt8) (p : Nat) (P : List UInt8) (M : Int) (bv o : Value) : Prop where
  b : Thing s jb [bv, .int .i64 (p : Nat), .int .i64 0]
  f : Thing s jf [bptr jb, o, .int .i64 M]
  low : Low base s 1 bv D.length (ofBytes D)
  own : Own s 1 o P.length (ofBytes P)
  fresh : Fresh base o
  nb : idOf o ≠ some jb
  nf : idOf o ≠ some jf
  ne : jb ≠ jf
  lb : base ≤ jb
  lf : base ≤ jf
def Flow (base : Nat) (s : ASt) (jf jb : Nat) (D : List UInt8) (p : Nat) (P : List UInt8) (M : Int) : Prop := ∃ bv o, Fl base s jf jb D p P M bv o
theorem Fl.at {base : Nat} {s s' : ASt} {jf jb : Nat} {D P : List UInt8} {p p' : Nat} {M : Int} {bv o : Value} (h : Fl base s jf jb D p P M bv o) (hb : Thing s' jb [bv, .int .i64 (p' : Nat), .int .i64 0]) (hn : s'.next = s.next) (hs : ∀ i, i ≠ jb → s'.heap.get i = s.heap.get i) : Fl base s' jf jb D p' P M bv o :=
  ⟨hb, h.f.turns (Turns.ofPut (i := jb) (o := 0) (c := none) hn hs) (fun e => h.ne (by injection e)), h.low.stay (Stay.ofPut hn hs h.lb), h.own.ofPut hn hs h.nb, h.fresh, h.nb, h.nf, h.ne, h.lb, h.lf⟩

set_option maxRecDepth 100000 in
set_option maxHeartbeats 4000000 in
theorem take_any {lib : Prims} (hl : lib.at 32 = none) (base : Nat) (s : ASt) (jf jb : Nat) (D P : List UInt8) (p n : Nat) (M : Int) (h : Flow base s jf jb D p P M) (hn16 : n ≤ 16) (hD : p + n ≤ 8 * D.length) (hDl : D.length ≤ 1000000000) :
    Runs Try.prog lib 32 [bptr jb, .int .i64 n] s fun v s' => v = .int .i64 (bitsN D p n : Nat) ∧ Flow base s' jf jb D (p + n) P M ∧ Stay base s s' := by
  obtain ⟨bv, o, h⟩ := h
  refine Runs.enter 72 Try.func32 rfl hl rfl rfl ?_
  intro f hn hf
  have h0 : f.get 0 = bptr jb := hf 0
  have h1 : f.get 1 = .int .i64 n := hf 1
  clear hf
  have l0 := h.b.load (P := Try.prog) agSl (off := 0) (c := 4) rfl (by simp)
  have l1 := h.b.load (P := Try.prog) agInt (off := 1) (c := 4) rfl (by simp)
  have l2 := h.b.load (P := Try.prog) agInt (off := 2) (c := 4) rfl (by simp)
  have c1 : ¬ (8 * (D.length : Int) - (p : Int) < n) := by omega
  simp (config := { maxSteps := 1000000, implicitDefEqProofs := false }) (disch := omega) only [allW, allR, evalAll, Nat.reduceLT, Nat.reduceEqDiff, ↓reduceIte, hn, h0, h1, tfld0, tfld1, tfld2, l0, l1, l2, h.low.sees.lenA Try.underlying22, h.low.sees.self, wrapI, eq_false c1]
  refine Comes.loopAt (fun q f s' => ∃ (i : Nat), q = n - i ∧ i ≤ n ∧ Fl base s' jf jb D (p + i) P M bv o ∧ Stay base s s' ∧ f.n = 72 ∧ f.get 0 = bptr jb ∧ f.get 1 = .int .i64 n ∧ f.get 5 = .int .i64 (bitsN D p i : Nat) ∧ f.get 6 = .int .i64 i)
    ⟨0, rfl, by omega, h, Stay.refl _ _, by simp only [n_put, hn], by simp only [get_put, ↓reduceIte, Nat.reduceEqDiff, h0], by simp only [get_put, ↓reduceIte, Nat.reduceEqDiff, h1], by simp only [get_put, ↓reduceIte, Nat.reduceEqDiff]; rfl, by simp only [get_put, ↓reduceIte]; rfl⟩ ?_
  clear hn h0 h1 f l0 l1 l2
  rintro q f s1 ⟨i, rfl, hi, h, hst, hn, h0, h1, h5, h6⟩
  by_cases hin : i < n
  · have hin' : (i : Int) < n := by omega
    have l0 := h.b.load (P := Try.prog) agSl (off := 0) (c := 4) rfl (by simp)
    have l1 := h.b.load (P := Try.prog) agInt (off := 1) (c := 4) rfl (by simp)
    have hm8 : (p + i) % 8 < 8 := Nat.mod_lt _ (by omega)
    have hlt : (p + i) / 8 < D.length := by omega
    have k1 := h.low.sees.load1 (P := Try.prog) agU8 hlt
    rw [ofBytes_getD hlt] at k1
    have hq : (D.getD ((p + i) / 8) 0).toNat / 2 ^ ((p + i) % 8) < 256 := Nat.lt_of_le_of_lt (Nat.div_le_self _ _) (D.getD ((p + i) / 8) 0).toNat_lt
    have hbit : (D.getD ((p + i) / 8) 0).toNat / 2 ^ ((p + i) % 8) % 2 = bit D (p + i) := rfl
    have hb2 := bit_lt D (p + i)
    have hv := bitsN_lt D p i
    have hrec : bitsN D p i + bit D (p + i) * 2 ^ i = bitsN D p (i + 1) := rfl
    have hi32 : i < 32 := by omega
    have hor := orI hv hb2 hi32
    rw [hrec] at hor
    have hidx := h.low.sees.indexAddr (k := .i64) (x := (((p + i) / 8 : Nat) : Int)) Try.underlying22 szU8 (by omega) (by omega)
    rw [Int.toNat_natCast] at hidx
    have hself := h.low.sees.self
    have hsh := shlI Try.prog 3 .u64 hb2 hi32
    simp (config := { maxSteps := 1000000, implicitDefEqProofs := false }) (disch := omega) only [allW, allR, Nat.reduceLT, Nat.reduceEqDiff, ↓reduceIte, hn, h0, h1, h5, h6, eq_true hin', tfld0, tfld1, l0, l1, hself, bin_quo, quo8, bin_rem, rem8, wrapI, hidx, k1, conv_int Try.underlying3 Try.underlying29, wrapu64x, shrB, bin_and, andB, hbit, conv_int Try.underlying5 Try.underlying3, hsh, bin_or, hor, Try.underlying3, Try.underlying29]
    refine wstep_store szInt h.b rfl (by simp) rfl ?_
    intro t2 hb3 hn2 hs2
    simp (config := { maxSteps := 1000000, implicitDefEqProofs := false }) (disch := omega) only [allW, Nat.reduceLT, Nat.reduceEqDiff, ↓reduceIte, hn, h6, wrapI]
    refine wround_next (n - (i + 1)) (by omega) ⟨i + 1, rfl, by omega, h.at (p' := p + (i + 1)) hb3 hn2 hs2, hst.trans (Stay.ofPut hn2 hs2 h.lb), by simp only [n_put, hn], by simp only [get_put, ↓reduceIte, Nat.reduceEqDiff, h0], by simp only [get_put, ↓reduceIte, Nat.reduceEqDiff, h1], by simp only [get_put, ↓reduceIte, Nat.reduceEqDiff], by simp only [get_put, ↓reduceIte]; rfl⟩
  · obtain rfl : i = n := by omega
    have hin' : ¬ (i : Int) < i := by omega
    simp (config := { maxSteps := 1000000, implicitDefEqProofs := false }) (disch := omega) only [allW, wfn_ret, oneOf, Nat.reduceLT, Nat.reduceEqDiff, ↓reduceIte, hn, h1, h5, h6, eq_false hin', Try.results32]
    exact ⟨⟨bv, o, h⟩, hst⟩

set_option maxRecDepth 100000 in
set_option maxHeartbeats 4000000 in
theorem fput_any {lib : Prims} (hl : lib.at 57 = none) (base : Nat) (s : ASt) (jf jb : Nat) (D P : List UInt8) (p : Nat) (M : Int) (c : UInt8) (h : Flow base s jf jb D p P M) (hM : (P.length : Int) < M) (hPl : P.length ≤ 1000000000) (hb : base ≤ s.next) :
    Runs Try.prog lib 57 [bptr jf, .int .u8 c.toNat] s fun _ s' => Flow base s' jf jb D p (P ++ [c]) M ∧ Stay base s s' := by
  obtain ⟨bv, o, h⟩ := h
  refine Runs.enter 47 Try.func57 rfl hl rfl rfl ?_
  intro f hn hf
  have h0 : f.get 0 = bptr jf := hf 0
  have h1 : f.get 1 = .int .u8 c.toNat := hf 1
  clear hf
  have l2 := h.b.load (P := Try.prog) agInt (off := 2) (c := 4) rfl (by simp)
  have w0 := h.f.load (P := Try.prog) agBitsP (off := 0) (c := 4) rfl (by simp)
  have w1 := h.f.load (P := Try.prog) agSl (off := 1) (c := 4) rfl (by simp)
  have w2 := h.f.load (P := Try.prog) agInt (off := 2) (c := 4) rfl (by simp)
  have c1 : ¬ M ≤ (P.length : Int) := by omega
  simp (config := { maxSteps := 1000000, implicitDefEqProofs := false }) (disch := omega) only [allW, allR, evalAll, partsA, Nat.reduceLT, Nat.reduceEqDiff, ↓reduceIte, hn, h0, h1, tfld2, wfld0, wfld1, wfld2, l2, w0, w1, w2, h.own.sees.lenA Try.underlying22, h.own.self, eq_false c1, build1 Try.underlying22 szU8 zU8]
  refine wstep_append_lit Try.underlying22 szU8 byU8 zU8 rfl h.own (by simp only [get_put, ↓reduceIte, Nat.reduceEqDiff]) (by decide) (by simp only [n_put, hn]; decide) (by simp only [n_put, hn]; decide) (by rfl) (by decide) rfl (by omega) (by omega) h.fresh hb ?_
  intro bs o2 s2 ho2 hF2 hst2 ht2 hid2
  have hne : ∀ j, j < s.next → idOf o ≠ some j → idOf o2 ≠ some j := fun j hj hne => by
    rcases hid2 with e | ⟨i, e, hi⟩
    · rw [e]; exact hne
    · rw [e]; intro q; injection q with q; omega
  have hnb := hne jb h.b.lt h.nb
  have hnf := hne jf h.f.lt h.nf
  have hf2 := h.f.turns ht2 h.nf
  have hb2 := h.b.turns ht2 h.nb
  simp (config := { maxSteps := 1000000, implicitDefEqProofs := false }) (disch := omega) only [allW, Nat.reduceLT, Nat.reduceEqDiff, ↓reduceIte, hn, wfld1]
  refine wstep_store szSl hf2 rfl (by simp) ho2.sees.okCell ?_
  intro s3 hf3 hn3 hs3
  simp (config := { maxSteps := 1000000, implicitDefEqProofs := false }) (disch := omega) only [allW, wfn_normal, Try.results57]
  have hst3 := hst2.trans (Stay.ofPut hn3 hs3 h.lf)
  refine ⟨⟨bv, o2, ⟨hb2.turns (Turns.ofPut (i := jf) (o := 0) (c := none) hn3 hs3) (fun e => h.ne (by injection e with e; exact e.symm)), hf3, h.low.stay hst3, ?_, hF2, hnb, hnf, h.ne, h.lb, h.lf⟩⟩, hst3⟩
  rw [ofBytes_append, List.length_append]
  exact ho2.ofPut hn3 hs3 hnf

theorem hdr_num {n : Nat} (h : n ≤ 65535) : (UInt8.ofNat n).toNat + 256 * (UInt8.ofNat (n / 256)).toNat = n := by rw [UInt8.toNat_ofNat', UInt8.toNat_ofNat']; omega
theorem hdr_not {n : Nat} (h : n ≤ 65535) : (UInt8.ofNat (255 - n % 256)).toNat + 256 * (UInt8.ofNat (255 - n / 256 % 256)).toNat = 65535 - n := by rw [UInt8.toNat_ofNat', UInt8.toNat_ofNat']; omega

set_option maxRecDepth 100000 in
set_option maxHeartbeats 4000000 in
theorem fstored_any {lib : Prims} (hl : lib.at 33 = none) (hlt : lib.at 32 = none) (hlp : lib.at 57 = none) (base : Nat) (s : ASt) (jf jb : Nat) (D P : List UInt8) (p a n : Nat) (M : Int) (h : Flow base s jf jb D p P M) (ha : (p + 7) / 8 = a) (hn : n ≤ 65535)
    (d0 : D.getD a 0 = UInt8.ofNat n) (d1 : D.getD (a + 1) 0 = UInt8.ofNat (n / 256)) (d2 : D.getD (a + 2) 0 = UInt8.ofNat (255 - n % 256)) (d3 : D.getD (a + 3) 0 = UInt8.ofNat (255 - n / 256 % 256)) (hD : a + 4 + n ≤ D.length) (hDl : D.length ≤ 1000000000) (hM : (P.length : Int) + n ≤ M) (hPl : P.length + n ≤ 1000000000) (hb : base ≤ s.next) :
    Runs Try.prog lib 33 [bptr jf] s fun _ s' => Flow base s' jf jb D (8 * (a + 4 + n)) (P ++ (D.drop (a + 4)).take n) M ∧ Stay base s s' := by
  obtain ⟨bv, o, h⟩ := h
  refine Runs.enter 75 Try.func33 rfl hl rfl rfl ?_
  intro f hn' hf
  have h0 : f.get 0 = bptr jf := hf 0
  clear hf
  have l1 := h.b.load (P := Try.prog) agInt (off := 1) (c := 4) rfl (by simp)
  have w0 := h.f.load (P := Try.prog) agBitsP (off := 0) (c := 4) rfl (by simp)
  have e7 : (p : Int) + 7 = ((p + 7 : Nat) : Int) := by omega
  have e8 : (((p + 7) / 8 : Nat) : Int) * 8 = ((8 * a : Nat) : Int) := by rw [ha]; omega
  simp (config := { maxSteps := 1000000, implicitDefEqProofs := false }) (disch := omega) only [allW]
  refine Drawn.tight' (by kernel_rfl) ?_
  simp (config := { maxSteps := 1000000, implicitDefEqProofs := false }) (disch := omega) only [allW, allR, Nat.reduceLT, Nat.reduceEqDiff, ↓reduceIte, hn', h0, wfld0, tfld1, w0, l1, e7, bin_quo, quo8, wrapI, e8]
  refine vstep_store szInt h.b rfl (by simp) rfl ?_
  intro s1 hb1 hn1 hs1
  have h1 := h.at (p' := 8 * a) hb1 hn1 hs1
  have hst1 := Stay.ofPut hn1 hs1 h.lb
  have w0 := h1.f.load (P := Try.prog) agBitsP (off := 0) (c := 4) rfl (by simp)
  simp (config := { maxSteps := 1000000, implicitDefEqProofs := false }) (disch := omega) only [allW, allR, evalAll, Nat.reduceLT, Nat.reduceEqDiff, ↓reduceIte, hn', h0, wfld0, w0]
  refine (take_any hlt base s1 jf jb D P (8 * a) 16 M ⟨bv, o, h1⟩ (by omega) (by omega) hDl).mono ?_
  rintro _ s2 ⟨rfl, ⟨bv2, o2, h2⟩, hst2⟩
  have hst2' := hst1.trans hst2
  have w0 := h2.f.load (P := Try.prog) agBitsP (off := 0) (c := 4) rfl (by simp)
  rw [bits16, d0, d1, hdr_num hn]
  simp (config := { maxSteps := 1000000, implicitDefEqProofs := false }) (disch := omega) only [allW, allR, evalAll, Nat.reduceLT, Nat.reduceEqDiff, ↓reduceIte, hn', h0, wfld0, w0]
  refine (take_any hlt base s2 jf jb D P (8 * a + 16) 16 M ⟨bv2, o2, h2⟩ (by omega) (by omega) hDl).mono ?_
  rintro _ s3 ⟨rfl, ⟨bv3, o3, h3⟩, hst3⟩
  have hst3' := hst2'.trans hst3
  have e16 : 8 * a + 16 = 8 * (a + 2) := by omega
  have w0 := h3.f.load (P := Try.prog) agBitsP (off := 0) (c := 4) rfl (by simp)
  have l2 := h3.b.load (P := Try.prog) agInt (off := 2) (c := 4) rfl (by simp)
  rw [e16, bits16, d2, show a + 2 + 1 = a + 3 by omega, d3, hdr_not hn]
  have hx := xor16 (m := 65535 - n) (by omega)
  have hxn : 65535 - (65535 - n) = n := by omega
  rw [hxn] at hx
  simp (config := { maxSteps := 1000000, implicitDefEqProofs := false }) (disch := omega) only [allW, allR, Nat.reduceLT, Nat.reduceEqDiff, ↓reduceIte, hn', h0, wfld0, tfld2, w0, l2, bin_xor, hx]
  refine Comes.loopAt (fun q f s' => ∃ (i : Nat), q = n - i ∧ i ≤ n ∧ Flow base s' jf jb D (8 * (a + 4 + i)) (P ++ (D.drop (a + 4)).take i) M ∧ Stay base s s' ∧ f.n = 75 ∧ f.get 0 = bptr jf ∧ f.get 2 = .int .i64 n ∧ f.get 4 = .int .i64 i)
    ⟨0, rfl, by omega, ⟨bv3, o3, by rw [List.take_zero, List.append_nil, show 8 * (a + 4 + 0) = 8 * (a + 2) + 16 by omega, ← e16]; exact h3⟩, hst3', by simp only [n_put, hn'], by simp only [get_put, ↓reduceIte, Nat.reduceEqDiff, h0], by simp only [get_put, ↓reduceIte, Nat.reduceEqDiff], by simp only [get_put, ↓reduceIte]; rfl⟩ ?_
  clear hn' h0 f w0 l2 h h1 h2 h3 hst1 hst2 hst2' hst3 hst3' hb1 hn1 hs1 hx l1
  rintro q f s4 ⟨i, rfl, hi, ⟨bv4, o4, h4⟩, hst4, hn', h0, h2, h4'⟩
  have w0 := h4.f.load (P := Try.prog) agBitsP (off := 0) (c := 4) rfl (by simp)
  have l2 := h4.b.load (P := Try.prog) agInt (off := 2) (c := 4) rfl (by simp)
  by_cases hin : i < n
  · have hin' : (i : Int) < n := by omega
    simp (config := { maxSteps := 1000000, implicitDefEqProofs := false }) (disch := omega) only [allW, allR, evalAll, Nat.reduceLT, Nat.reduceEqDiff, ↓reduceIte, hn', h0, h2, h4', eq_true hin', wfld0, tfld2, w0, l2]
    refine (take_any hlt base s4 jf jb D _ (8 * (a + 4 + i)) 8 M ⟨bv4, o4, h4⟩ (by omega) (by omega) hDl).mono ?_
    rintro _ s5 ⟨rfl, hF5, hst5⟩
    rw [bits8]
    have hc8 := (D.getD (a + 4 + i) 0).toNat_lt
    have hcv : IntKind.u8.wrap (((D.getD (a + 4 + i) 0).toNat : Nat) : Int) = (((D.getD (a + 4 + i) 0).toNat : Nat) : Int) := by rw [wrapu8]; omega
    simp (config := { maxSteps := 1000000, implicitDefEqProofs := false }) (disch := omega) only [allW, allR, evalAll, Nat.reduceLT, Nat.reduceEqDiff, ↓reduceIte, hn', h0, conv_int Try.underlying3 Try.underlying5, hcv]
    have hlen : (P ++ (D.drop (a + 4)).take i).length = P.length + i := by rw [List.length_append, List.length_take, List.length_drop]; omega
    have hst5' := hst4.trans hst5
    refine (fput_any hlp base s5 jf jb D _ _ M (D.getD (a + 4 + i) 0) hF5 (by rw [hlen]; omega) (by rw [hlen]; omega) (Nat.le_trans hb hst5'.next)).mono ?_
    rintro _ s6 ⟨hF6, hst6⟩
    simp (config := { maxSteps := 1000000, implicitDefEqProofs := false }) (disch := omega) only [allW, Nat.reduceLT, Nat.reduceEqDiff, ↓reduceIte, hn', h4', wrapI]
    refine wround_next (n - (i + 1)) (by omega) ⟨i + 1, rfl, by omega, ?_, hst5'.trans hst6, by simp only [n_put, hn'], by simp only [get_put, ↓reduceIte, Nat.reduceEqDiff, h0], by simp only [get_put, ↓reduceIte, Nat.reduceEqDiff, h2], by simp only [get_put, ↓reduceIte]; rfl⟩
    have et : (D.drop (a + 4)).take (i + 1) = (D.drop (a + 4)).take i ++ [D.getD (a + 4 + i) 0] := by
      rw [List.take_add_one, List.getElem?_drop, List.getD_eq_getElem?_getD, List.getElem?_eq_getElem (by omega)]; rfl
    rw [et, ← List.append_assoc, show 8 * (a + 4 + (i + 1)) = 8 * (a + 4 + i) + 8 by omega]
    exact hF6
  · obtain rfl : i = n := by omega
    have hin' : ¬ (i : Int) < i := by omega
    simp (config := { maxSteps := 1000000, implicitDefEqProofs := false }) (disch := omega) only [allW, allR, wfn_normal, Nat.reduceLT, Nat.reduceEqDiff, ↓reduceIte, hn', h2, h4', eq_false hin', Try.results33]
    exact ⟨⟨bv4, o4, h4⟩, hst4⟩
end Go.Proofs.Ytnclklboogdoiaa
