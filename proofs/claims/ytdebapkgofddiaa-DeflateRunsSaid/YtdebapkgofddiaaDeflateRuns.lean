/-
  The statement DeflateRuns: a row of one byte, or of a few that come again and again, is written in a few bits for each 258, and is read as it was: the law returns true.
  Conditions: none.
-/
import Derived.Test.YtdebapkgofddiaaRows
import Derived.Test.YtdebapkgofddiaaStart
import Derived.Test.YtdebapkgofddiaaFixG
import Derived.Test.YtdebapkgofddiaaFixR
set_option linter.unusedSimpArgs false
set_option linter.unusedVariables false
namespace Go.Cl.Fx
/-- So many bytes of a row are laid. -/
def perTo (P : List UInt8) (k i : Nat) : List UInt8 := (List.range k).map fun j => if j < i then P.getD (j % P.length) 0 else 0
theorem perTo_all (P : List UInt8) (k : Nat) : perTo P k k = per P k := by
  unfold perTo per
  refine List.map_congr_left (fun s hs => ?_)
  rw [if_pos (List.mem_range.1 hs)]
theorem perTo_zero (P : List UInt8) (k : Nat) : List.replicate k 0 = perTo P k 0 := by
  unfold perTo
  refine List.ext_getElem (by simp) (fun i h1 h2 => by simp)
theorem perTo_length (P : List UInt8) (k i : Nat) : (perTo P k i).length = k := by simp [perTo]
theorem perTo_set {P : List UInt8} {k i : Nat} (h : i < k) : (perTo P k i).set i (P.getD (i % P.length) 0) = perTo P k (i + 1) := by
  unfold perTo
  refine List.ext_getElem (by simp) (fun j h1 h2 => ?_)
  rw [List.getElem_set]
  simp only [List.getElem_map, List.getElem_range]
  by_cases c : i = j
  · subst c; simp
  · rw [if_neg c]
    by_cases c2 : j < i
    · rw [if_pos c2, if_pos (by omega)]
    · rw [if_neg c2, if_neg (by omega)]
end Go.Cl.Fx
namespace Go.Proofs.Ytdebapkgofddiaa.deflateRuns
open Go.ChangeShapes Go.WideShapes Go.ChangeAt Go.RowKit Go.Cl Go.Cl.Sto Go.Cl.Rw Go.Cl.Fx

theorem awake1 : answersTrue (acall Try.prog libN 100000 9 [] ⟨.nil, 1⟩) = true := by kernel_rfl
set_option maxRecDepth 100000 in
set_option maxHeartbeats 8000000 in
theorem law (s : ASt) (x : Value) (P : List UInt8) (n : Int) (hw : WF s) (hk : s.next = 1) (hx : Sees s 1 x P.length (ofBytes P)) (hz1 : (Lit.int .u16 n).wf = true) :
    Runs Try.prog libN 5 [x, .int .u16 n] s fun v _ => v = .bool true := by
  obtain ⟨QQ, hQQ⟩ : ∃ QQ : Value → ASt → Prop, QQ = fun v _ => v = .bool true := ⟨_, rfl⟩
  rw [← hQQ]
  have hn0 : 0 ≤ n ∧ n < 65536 := by
    simp [Lit.wf, IntKind.min, IntKind.max, IntKind.bits, IntKind.signed] at hz1
    omega
  obtain ⟨m, rfl⟩ : ∃ m : Nat, n = m := ⟨n.toNat, by omega⟩
  obtain ⟨k, hkk⟩ : ∃ k, k = m % 3000 := ⟨_, rfl⟩
  have hk2 : k < 3000 := by omega
  have hrem : ((m : Int)).tmod 3000 = (k : Int) := by rw [Int.tmod_eq_emod_of_nonneg (by omega)]; omega
  refine Runs.enter 78 Try.func5 rfl rfl rfl rfl ?_
  intro f hn hf
  have h0 : f.get 0 = x := hf 0
  have h1 : f.get 1 = .int .u16 m := hf 1
  clear hf
  simp (config := { maxSteps := 1000000, implicitDefEqProofs := false }) (disch := omega) only [allW, allR, oneOf, evalAll, partsA, optA, Nat.reduceLT, Nat.reduceLeDiff, Nat.reduceEqDiff, Nat.reduceAdd, ↓reduceIte, hn, h0, h1]
  refine (Runs.closed libFr awake1 hk hw).mono ?_
  rintro _ s1 ⟨rfl, k1, _⟩
  have hx1 := hx.keeps k1
  by_cases c0 : P.length = 0
  · have d0 : ((P.length : Nat) : Int) = 0 := by omega
    simp (config := { maxSteps := 1000000, implicitDefEqProofs := false }) (disch := omega) only [allW, allR, wfn_ret, wfn_normal, oneOf, evalAll, partsA, optA, Nat.reduceLT, Nat.reduceLeDiff, Nat.reduceEqDiff, Nat.reduceAdd, ↓reduceIte, undef, hn, h0, h1, Bool.not_true, hx1.lenA Try.underlying24, eq_true d0, decide_true, Try.results5]
    rw [hQQ]
  have d0 : ¬ ((P.length : Nat) : Int) = 0 := by omega
  by_cases c64 : ((P.length : Nat) : Int) > 64
  · simp (config := { maxSteps := 1000000, implicitDefEqProofs := false }) (disch := omega) only [allW, allR, wfn_ret, wfn_normal, oneOf, evalAll, partsA, optA, Nat.reduceLT, Nat.reduceLeDiff, Nat.reduceEqDiff, Nat.reduceAdd, ↓reduceIte, undef, hn, h0, h1, Bool.not_true, hx1.lenA Try.underlying24, eq_false d0, eq_true c64, decide_true, decide_false, Try.results5]
    rw [hQQ]
  simp (config := { maxSteps := 1000000, implicitDefEqProofs := false }) (disch := omega) only [allW, allR, oneOf, evalAll, partsA, optA, Nat.reduceLT, Nat.reduceLeDiff, Nat.reduceEqDiff, Nat.reduceAdd, ↓reduceIte, undef, hn, h0, h1, Bool.not_true, hx1.lenA Try.underlying24, eq_false d0, eq_false c64, decide_false, conv_int Try.underlying42 Try.underlying3, wrapI, bin_rem, hrem, makeInts Try.underlying24 szU8 zU8 byU8]
  refine wstep_newSlice (by rw [List.length_replicate, Nat.mul_one]) ?_
  intro b s2 hb hbF k2
  have hrep : List.replicate k (Value.int .u8 0) = ofBytes (perTo P k 0) := by rw [← perTo_zero]; simp [ofBytes]
  rw [hrep] at hb
  have n2 := k2.next
  simp (config := { maxSteps := 1000000, implicitDefEqProofs := false }) (disch := omega) only [allW, allR, oneOf, evalAll, partsA, optA, Nat.reduceLT, Nat.reduceLeDiff, Nat.reduceEqDiff, Nat.reduceAdd, ↓reduceIte, hn, h0, h1]
  refine Comes.loopOut (fun q f t => ∃ i : Nat, q = k - i ∧ i ≤ k ∧ Own t 1 b k (ofBytes (perTo P k i)) ∧ Stay s1.next s1 t ∧ f.n = 78 ∧ f.get 0 = x ∧ f.get 5 = .int .i64 (k : Nat) ∧ f.get 6 = b ∧ f.get 7 = .int .i64 (i : Nat))
    (fun z f t => z = .exit 0 ∧ Own t 1 b k (ofBytes (per P k)) ∧ Stay s1.next s1 t ∧ f.n = 78 ∧ f.get 0 = x ∧ f.get 5 = .int .i64 (k : Nat) ∧ f.get 6 = b)
    ⟨0, rfl, by omega, hb, k2, by simp only [get_put, n_put, ↓reduceIte, Nat.reduceEqDiff, hn], by simp only [get_put, n_put, ↓reduceIte, Nat.reduceEqDiff, h0], by simp only [get_put, n_put, ↓reduceIte, Nat.reduceEqDiff], by simp only [get_put, n_put, ↓reduceIte, Nat.reduceEqDiff], by simp only [get_put, n_put, ↓reduceIte, Nat.reduceEqDiff]; rfl⟩ ?_ ?_
  · clear hn h0 h1 f hb k2 n2 s2
    rintro Q hQ q f t ⟨i, rfl, hi, hb, hst, hn, h0, h5, h6, h7⟩
    have hxt := hx1.keeps hst
    by_cases hlt : i < k
    rotate_left
    · obtain rfl : i = k := by omega
      have d1 : ¬ ((i : Nat) : Int) < ((i : Nat) : Int) := by omega
      rw [perTo_all] at hb
      simp (config := { maxSteps := 1000000, implicitDefEqProofs := false }) (disch := omega) only [allW, allR, oneOf, evalAll, partsA, optA, Nat.reduceLT, Nat.reduceLeDiff, Nat.reduceEqDiff, Nat.reduceAdd, ↓reduceIte, hn, h0, h5, h6, h7, eq_false d1]
      exact hQ _ _ _ ⟨rfl, hb, hst, by simp only [get_put, n_put, ↓reduceIte, Nat.reduceEqDiff, hn], by simp only [get_put, n_put, ↓reduceIte, Nat.reduceEqDiff, h0], by simp only [get_put, n_put, ↓reduceIte, Nat.reduceEqDiff, h5], by simp only [get_put, n_put, ↓reduceIte, Nat.reduceEqDiff, h6]⟩
    have d1 : ((i : Nat) : Int) < ((k : Nat) : Int) := by omega
    have hil : i % P.length < P.length := Nat.mod_lt _ (by omega)
    have hm : ((i : Nat) : Int).tmod ((P.length : Nat) : Int) = ((i % P.length : Nat) : Int) := by
      rw [Int.tmod_eq_emod_of_nonneg (by omega)]; exact (Int.natCast_emod _ _).symm
    have hi1 := hxt.indexAddr (P := Try.prog) (k := .i64) (x := ((i % P.length : Nat) : Int)) Try.underlying24 szU8 (by omega) (by omega)
    have hi2 := hb.sees.indexAddr (P := Try.prog) (k := .i64) (x := (i : Int)) Try.underlying24 szU8 (by omega) (by omega)
    rw [Int.toNat_natCast] at hi1 hi2
    have k1' := hxt.load1 (P := Try.prog) agU8 hil
    rw [ofBytes_getD hil] at k1'
    simp (config := { maxSteps := 1000000, implicitDefEqProofs := false }) (disch := omega) only [allW, allR, oneOf, evalAll, partsA, optA, Nat.reduceLT, Nat.reduceLeDiff, Nat.reduceEqDiff, Nat.reduceAdd, ↓reduceIte, hn, h0, h5, h6, h7, eq_true d1, hxt.lenA Try.underlying24, bin_rem, hm, eq_false d0, hi1, k1', hi2]
    refine wstep_storeElem szU8 hb hlt rfl ?_
    intro t2 hb2 ht2
    rw [set_bytes, perTo_set hlt] at hb2
    simp (config := { maxSteps := 1000000, implicitDefEqProofs := false }) (disch := omega) only [allW, allR, oneOf, evalAll, partsA, optA, Nat.reduceLT, Nat.reduceLeDiff, Nat.reduceEqDiff, Nat.reduceAdd, ↓reduceIte, hn, h0, h5, h6, h7, wrapI]
    exact wround_next (k - (i + 1)) (by omega) ⟨i + 1, rfl, by omega, hb2, hst.trans (ht2.keeps hbF hst.next), by simp only [get_put, n_put, ↓reduceIte, Nat.reduceEqDiff, hn], by simp only [get_put, n_put, ↓reduceIte, Nat.reduceEqDiff, h0], by simp only [get_put, n_put, ↓reduceIte, Nat.reduceEqDiff, h5], by simp only [get_put, n_put, ↓reduceIte, Nat.reduceEqDiff, h6], by simp only [get_put, n_put, ↓reduceIte, Nat.reduceEqDiff]; rfl⟩
  clear hn h0 h1 f hb k2 n2 s2
  rintro z f s2 ⟨rfl, hb, k2, hn, h0, h5, h6⟩
  have hpl := per_length P k
  have hfl := fixed_length (per P k)
  have hfp := fixed_per (P := P) k (by omega) (by omega)
  have hx2 := hx1.keeps k2
  have hb' : Sees s2 1 b (per P k).length (ofBytes (per P k)) := by rw [hpl]; exact hb.sees
  simp (config := { maxSteps := 1000000, implicitDefEqProofs := false }) (disch := omega) only [allW, allR, oneOf, evalAll, partsA, optA, Nat.reduceLT, Nat.reduceLeDiff, Nat.reduceEqDiff, Nat.reduceAdd, ↓reduceIte, hn, h0, h5, h6]
  refine (fixed_any (lib := libN) rfl rfl rfl rfl rfl rfl rfl rfl rfl rfl s2 b (per P k) hb' (by omega)).mono ?_
  rintro a s3 ⟨hA, -, k3⟩
  have hA' : Sees s3 1 a (fixed (per P k) ++ []).length (ofBytes (fixed (per P k) ++ [])) := by rw [List.append_nil]; exact hA.sees
  simp (config := { maxSteps := 1000000, implicitDefEqProofs := false }) (disch := omega) only [allW, allR, oneOf, evalAll, partsA, optA, Nat.reduceLT, Nat.reduceLeDiff, Nat.reduceEqDiff, Nat.reduceAdd, ↓reduceIte, hn, h0, h5, h6]
  refine (blocksZ_any (lib := libN) rfl rfl rfl rfl rfl rfl rfl rfl rfl rfl s3 a (per P k) (fixed (per P k)) [] (.inl rfl) hA' (by omega) (by decide) (k : Nat) (by omega)).mono ?_
  rintro _ s4 ⟨o, rfl, hO, -, k4⟩
  have n2 := k2.next
  have n3 := k3.next
  have n4 := k4.next
  have hA4 := hA.keeps k4
  have hb4 := hb'.keeps (k3.trans (k4.weaken n3))
  have hx4 := hx2.keeps (k3.trans (k4.weaken n3))
  simp (config := { maxSteps := 1000000, implicitDefEqProofs := false }) (disch := omega) only [allW, allR, oneOf, evalAll, partsA, optA, Nat.reduceLT, Nat.reduceLeDiff, Nat.reduceEqDiff, Nat.reduceAdd, ↓reduceIte, undef, hn, h0, h5, h6, ext0F, ext1F, ext2F, decide_true, hA4.sees.lenA Try.underlying24]
  refine (same_any (lib := libN) rfl s4 o b (per P k) (per P k) hO.sees hb4 (by omega) (by omega)).mono ?_
  rintro _ s5 ⟨rfl, rfl⟩
  have q258 : ((k : Nat) : Int).tdiv 258 = ((k / 258 : Nat) : Int) := by rw [Int.tdiv_eq_ediv_of_nonneg (by omega)]; omega
  have hfin : (((fixed (per P k)).length : Nat) : Int) ≤ 2 * ((P.length : Nat) : Int) + 5 + 4 * (((k / 258 : Nat) : Int) + 1) := by omega
  simp (config := { maxSteps := 1000000, implicitDefEqProofs := false }) (disch := omega) only [allW, allR, wfn_ret, wfn_normal, oneOf, evalAll, partsA, optA, Nat.reduceLT, Nat.reduceLeDiff, Nat.reduceEqDiff, Nat.reduceAdd, ↓reduceIte, undef, hn, h0, h5, h6, decide_true, hA4.sees.lenA Try.underlying24, hx4.lenA Try.underlying24, bin_quo, q258, wrapI, eq_true hfin, Try.results5]
  rw [hQQ]

theorem own : ownKnob Try.prog.godebug = none := by kernel_rfl
theorem sound : progOk Try.prog libN = true := by kernel_rfl
theorem laid : laidOutB Try.prog = true := by kernel_rfl
theorem read : ∀ t ∈ Try.f5.params.toList, Try.prog.readableRec t = true ∧ t < Try.prog.types.size := by
  have : (Try.f5.params.toList.all fun t => Try.prog.readableRec t && decide (t < Try.prog.types.size)) = true := by kernel_rfl
  intro t ht
  simpa using List.all_eq_true.mp this t ht
theorem cellsu8 : Try.prog.cellsOf 5 = 1 := by kernel_rfl
set_option maxRecDepth 100000 in
theorem lifted (os : Os) (started : os.Started) (H : Type) (enc : TypeId × Value → H) :
    ReturnsInHanded {} Try.checked os 5 .any (Rows.deflateRunsSpec.pre6 enc Try.prog Try.f5 Rows.deflateRunsRow.domain false) (Rows.deflateRunsSpec.post enc Try.prog Try.f5 false true false false) := by
  refine returnsInHanded_of_change (C := Try.checked) own started (by kernel_rfl) Try.func5
    (ChangeSpec.witness6 (enc := enc) (C := Try.checked) false ⟨#[], #[.slice none 0 0, .int .u16 0], []⟩ 8 (by kernel_rfl) (by kernel_rfl) (by kernel_rfl) (by kernel_rfl)) ?_
  intro W base args ds gs before hval hW hcnd _
  obtain ⟨p, q, hA, _, _, _, _⟩ := id hW
  have hA : DataW.TrodAll enc Try.prog W 0 (fun _ => true) true Try.f5.params.toList args.toList ds p := hA
  rw [Try.params5] at hA
  obtain ⟨v0, v1, d0, d1, p0, p1, rfl, rfl, rfl, h0, h1⟩ := trodAll_two hA
  have hv0 : Value.okWide Try.prog W .any base 24 v0 := hval 0 _ _ (by rw [Try.params5]; rfl) rfl
  have hv1 : Value.okWide Try.prog W .any base 42 v1 := hval 1 _ _ (by rw [Try.params5]; rfl) rfl
  obtain ⟨S0, x0, l0, hj0, hx0⟩ := (Begun.start W).bytes Try.underlying24 Try.underlying5 cellsu8 hv0 h0
  obtain ⟨n1, rfl, _, _, hz1⟩ := open_int Try.underlying42 hv1 h1
  have hcalls := Runs.callsL libFr (libOk _) sound rfl hj0.begun (law S0.s x0 l0 n1 hj0.begun.sr.wf (by rw [hj0.next]; rfl) hx0 hz1) (args' := #[v0, .int .u16 n1]) (VRL.cons hj0.vr (VRL.cons (.int _ _) VRL.nil))
  refine hcalls.mono fun e W' ⟨he, hb⟩ => ?_
  subst he
  exact law_post laid read rfl Try.underlying4 rfl (fun L hL => by match L, hL with | [a0, a1], _ => rfl) hW hb

theorem over : Rows.deflateRunsRow.holds Try.pinned (OpenSpec.ofChange Rows.deflateRunsSpec) :=
  OpenClaim.holds_of_wide 5 Try.f5 rfl rfl rfl rfl rfl rfl rfl ⟨rfl, rfl, rfl, rfl, rfl⟩ rfl rfl rfl rfl rfl (by kernel_rfl) Try.func5 (by kernel_rfl)
    (of_decide_eq_true (by kernel_rfl)) (by unfold Func.isWrapper; first | (rw [if_pos (by decide +kernel)]; kernel_rfl) | (rw [if_neg (by decide +kernel)]; exact ⟨rfl, rfl⟩))
    (fun os started H enc _ => lifted os started H enc)

/-- THE STATEMENT. -/
theorem proved : Rows.DeflateRunsSaid := over
#print axioms proved
end Go.Proofs.Ytdebapkgofddiaa.deflateRuns
