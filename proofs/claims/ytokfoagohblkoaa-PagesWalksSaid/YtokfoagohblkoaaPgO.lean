import Derived.Test.YtokfoagohblkoaaPgM
import Derived.Test.YtokfoagohblkoaaDocJ
set_option linter.unusedSimpArgs false
set_option linter.unusedVariables false
set_option maxRecDepth 100000
namespace Go.Proofs.Ytokfoagohblkoaa
open Go.Cl Go.Lib
theorem uMi : Try.prog.underlying 86 = some (.map 3 3) := Try.underlying86
theorem zInP : yj Try.prog 3 = some (.int .i64 0) := by kernel_rfl
theorem Qd (F : Nat -> Prop) (s : ASt) (D : Dc) (mv : Value) (tc : List Value) (iv : Value) (ic : List Value) (hD : ye F s mv tc iv ic D) (hs : yN D) (cs : List Value) (o : O) (ho : OIs F s cs o) (hso : zu o) (x : Value) (K : List (List UInt8)) (hx : Sees s 1 x K.length (strs K)) (hK : K.length ≤ 1000) :
  Runs Try.prog libN 32 [.agg (docC D mv tc iv).toArray, .agg cs.toArray, x] s (RObj F s (xF D.items (resD D.items o) K)) := SA rfl rfl rfl rfl rfl rfl rfl F s D mv tc iv ic hD hs cs o ho hso x K hx hK yv
theorem Ty (F : Nat -> Prop) (s : ASt) (D : Dc) (mv : Value) (tc : List Value) (iv : Value) (ic : List Value) (hD : ye F s mv tc iv ic D) (hs : yN D) (n : Int) : Runs Try.prog libN 55 [.agg (docC D mv tc iv).toArray, .int .i64 n] s (Sy F s (yk D.items n)) := Js rfl F s D mv tc iv ic hD hs n
theorem efO1 {s : ASt} {v : Value} {n : Nat} {l : List Value} (h : Sees s 5 v n l) {k : Nat} (hk : k < n) : zk Try.prog 31 (zL 5 v k) 1 = some (yL (zL 5 v k) 1) := by
 obtain ⟨i, off, c, e, _⟩ := h.cells hk
 rw [e]
 unfold zk; rw [Try.underlying31]; simp [yL, wO]
theorem objNum {F : Nat -> Prop} {s : ASt} {lc : List Value} {i : Nat} {o : O} (h : OIs F s ((lc.drop (i * 5)).take 5) o) : lc.getD (i * 5 + 1) undef = .int .i64 o.num := by
 cases o with
 | mk k n b l d =>
  obtain ⟨bv, lv, dv, lc', dc, e, -⟩ := h.inv
  have h0 : ((lc.drop (i * 5)).take 5)[1]? = some (.int .i64 n) := by rw [e]; rfl
  rw [List.getElem?_take_of_lt (by omega), List.getElem?_drop] at h0
  rw [List.getD_eq_getElem?_getD, h0]; rfl
set_option maxHeartbeats 16000000 in
theorem SH (w : Nat) (D : Dc) (mv : Value) (tc : List Value) (iv : Value) (ic : List Value) (m : Nat) (hs : yN D) : ∀ (k : Nat) (s : ASt) (lv : Value) (W : WkO) (n : Int) (ca : List Value) (above : O), W.seen.length + k ≥ 4001 -> W.seen.length ≤ 4000 -> above.ents.length + 4 * k ≤ 40000 -> zu above -> OIs (zY w m lv) s ca above -> PwIs (rwC D mv tc iv m 0) (.int .i64 1) s w D mv tc iv ic m lv W ->
  Runs Try.prog libN 34 [.pointer (some ⟨w, 0, some 13⟩), .int .i64 n, .agg ca.toArray] s (Qc (.int .i64 1) s w D mv tc iv ic m lv (yl D.items k n above W)) := by
 intro k
 induction k with
 | zero => intro s lv W n ca above h1 h2; omega
 | succ k ih =>
 intro s lv W n ca above hk hsn hen hsa ha hW
 have htl := hW.doc.trailer.len
 have hal := ha.len
 have hd6 : zG.length + 1 = 6 := rfl
 refine Runs.enter 155 Try.func34 rfl rfl rfl rfl ?_
 intro f hn hf
 have h0 : f.get 0 = .pointer (some ⟨w, 0, some 13⟩) := hf 0
 have h1 : f.get 1 = .int .i64 n := hf 1
 have h2 : f.get 2 = .agg ca.toArray := hf 2
 clear hf
 simp -implicitDefEqProofs (disch := omega) only [allW, Nat.reduceLT, ↓reduceIte, hn, h2]
 refine ze ?_
 intro s1 ht1 hst1 hnx1
 have ht1 : zd s1 s.next ca := ht1
 have n1 := hst1.next
 have hW1 := hW.keeps hst1
 obtain ⟨T, hT, hS⟩ := hW1.met
 have hlk := hT.get uMi JY zInP rfl n
 rw [hS.at_] at hlk
 rw [jl]
 have hfr : ∀ j, s.next ≤ j -> zY w m lv j := fun j hj => hW.free hj
 have bad : ∀ (u : ASt) (W' : WkO) (e : Nat) (f : AFr) (u6 : ASt), PwIs (rwC D mv tc iv m 0) (.int .i64 1) u w D mv tc iv ic m lv W' -> WTo w m lv lv s u -> f.n = 155 -> zd u6 w ((rwC D mv tc iv m 0 lv).set 11 (.int .i64 (e : Nat))) -> u6.next = u.next -> (∀ j, j ≠ w -> u6.heap.get j = u.heap.get j) -> wfn Try.prog (Try.f34).results.toList (Qc (.int .i64 1) s w D mv tc iv ic m lv (W', e)) .ret f u6 := by
  intro u W' e f u6 hW hto hn hT hn6 he6
  rw [KZ htl] at hT
  obtain ⟨p1, p2⟩ := PwIs.bad (X' := rwC D mv tc iv m e) hW hT hn6 he6
  simp -implicitDefEqProofs (disch := omega) only [allW, zj, zh, Try.results34]
  exact ⟨lv, p1, hto.trans p2⟩
 have hb0 : ((0 : Nat) : Int) = 0 := rfl
 by_cases c1 : n ∈ W.seen
 ·rw [if_pos c1]
  rw [if_pos c1] at hlk
  have hlk : wx Try.prog s1 86 (.map (some m)) (.int .i64 n) false = some (.int .i64 1) := hlk
  have d1 : (1 : Int) > 0 := by decide
  simp -implicitDefEqProofs (disch := omega) only [allW, allR, Nat.reduceLT, Nat.reduceEqDiff, Nat.reduceAdd, ↓reduceIte, hn, h0, h1, hal, rm3, jQ hW1.thing htl, hb0, not_true, rm1, Qb hW1.thing htl, hlk, eq_true d1]
  refine yF yP hW1.thing (off := 11) (c := 13) (by rw [yo htl]) (by rw [yo htl]; decide) (v := .int .i64 9) rfl ?_
  intro u6 hu6 nu6 eu6
  simp -implicitDefEqProofs (disch := omega) only [allW]
  exact bad s1 W 9 _ u6 hW1 (WTo.ofStay hst1) (by simp only [zf, hn]) hu6 nu6 eu6
 rw [if_neg c1]
 rw [if_neg c1] at hlk
 have hlk : wx Try.prog s1 86 (.map (some m)) (.int .i64 n) false = some (.int .i64 0) := hlk
 have d1 : ¬ (0 : Int) > 0 := by decide
 have d2 : (0 : Int) + 1 = 1 := by decide
 simp -implicitDefEqProofs (disch := omega) only [allW, allR, Nat.reduceLT, Nat.reduceEqDiff, Nat.reduceAdd, ↓reduceIte, hn, h0, h1, hal, rm3, jQ hW1.thing htl, hb0, not_true, rm1, Qb hW1.thing htl, hlk, eq_false d1, d2, zR]
 refine jK uMi JY hT n (.int .i64 1) ?_
 intro s3 hT3 nt3 et3
 have hS3 := hS.cons c1
 have hW3 := hW1.seen hT3 hS3 nt3 et3
 have hto3 : WTo w m lv lv s s3 := (WTo.ofStay hst1).trans (WTo.ofPut nt3 et3 (.inr rfl))
 have hlen := hT3.len uMi
 rw [hS3.len] at hlen
 obtain ⟨W3, hW3e⟩ : ∃ W3 : WkO, W3 = ⟨n :: W.seen, W.pages⟩ := ⟨_, rfl⟩
 rw [← hW3e] at hW3 ⊢
 by_cases c2 : W.seen.length + 1 > 4000
 ·rw [if_pos c2]
  have d1 : (((n :: W.seen).length : Nat) : Int) > 4000 := by rw [List.length_cons]; omega
  simp -implicitDefEqProofs (disch := omega) only [allW, zc, Nat.reduceLT, Nat.reduceEqDiff, ↓reduceIte, undef, hn, h0, rm1, rm3, Qb hW3.thing htl, hlen, eq_true d1]
  refine yF yP hW3.thing (off := 11) (c := 13) (by rw [yo htl]) (by rw [yo htl]; decide) (v := .int .i64 7) rfl ?_
  intro u6 hu6 nu6 eu6
  simp -implicitDefEqProofs (disch := omega) only [allW]
  exact bad s3 W3 7 _ u6 hW3 hto3 (by simp only [zf, hn]) hu6 nu6 eu6
 rw [if_neg c2]
 have d1 : ¬ (((n :: W.seen).length : Nat) : Int) > 4000 := by rw [List.length_cons]; omega
 simp -implicitDefEqProofs (disch := omega) only [allW, allR, zc, Nat.reduceLT, Nat.reduceEqDiff, ↓reduceIte, undef, hn, h0, h1, rm0, rm1, Qb hW3.thing htl, hlen, eq_false d1, Zg hW3.thing htl]
 refine (Ty _ s3 D mv tc iv ic hW3.doc hs n).mono ?_
 rintro _ s4 ⟨c4, rfl, ho4, k4⟩
 have n4 := k4.next
 have hl4 := ho4.len
 have hW4 := hW3.keeps k4
 obtain ⟨o, hoe⟩ : ∃ o, o = (yk D.items n).1 := ⟨_, rfl⟩
 obtain ⟨ok, hoke⟩ : ∃ ok, ok = (yk D.items n).2 := ⟨_, rfl⟩
 have hso : zu o := by rw [hoe]; exact vm hs.items n
 simp only [← hoe, ← hoke] at ho4 ⊢
 refine ZW (fun f => f.n = 155 ∧ f.get 0 = .pointer (some ⟨w, 0, some 13⟩) ∧ f.get 1 = .int .i64 n ∧ f.get 5 = .pointer (some ⟨s.next, 0, some 6⟩)) ⟨by simp only [zf, hn], by first | simp only [za, ↓reduceIte, Nat.reduceEqDiff, h0] | simp only [za, zf, ↓reduceIte, Nat.reduceEqDiff], by first | simp only [za, ↓reduceIte, Nat.reduceEqDiff, h1] | simp only [za, zf, ↓reduceIte, Nat.reduceEqDiff], by first | simp only [za, zf, ↓reduceIte, Nat.reduceEqDiff, h5] | simp only [za, ↓reduceIte, Nat.reduceEqDiff]⟩ ?_
 rintro f ⟨hn, h0, h1, h5⟩
 have hs4 : WTo w m lv lv s s4 := hto3.trans (WTo.ofStay k4)
 have n03 := hto3.next
 have hfs : zY w m lv s.next := hW.free (Nat.le_refl _)
 have ht14 : zd s4 s.next ca := (ht1.ofPut nt3 et3 (by intro e; rw [e] at hfs; exact hfs.2.1 rfl)).keeps k4
 have ha4 := ha.wto hs4
 clear ht1 hT3 hT hS3 hS hlk hlen hW1 et3
 simp -implicitDefEqProofs (disch := omega) only [allW, Nat.reduceLT, Nat.reduceEqDiff, ↓reduceIte, hn, ext0, ext1, zO, plO]
 refine ze ?_
 intro s5 ht5 hst5 hnx5
 simp -implicitDefEqProofs (disch := omega) only [allW, Nat.reduceLT, Nat.reduceEqDiff, ↓reduceIte, hn, hd6]
 refine zi szO (by decide) ht5 rfl rfl hl4 ho4.ok ?_
 intro s6 ht6 nt6 et6
 have ht6 : zd s6 s4.next c4 := ht6
 have k46 : Stay s4.next s4 s6 := hst5.trans ⟨by omega, fun j hj => et6 j (by omega)⟩
 have n46 := k46.next
 have ho6 := ho4.keeps k46
 have hW6 := hW4.keeps k46
 have ha6 := ha4.keeps k46
 have ht16 := ht14.keeps k46
 simp -implicitDefEqProofs (disch := omega) only [allW, allR, zc, Nat.reduceLT, Nat.reduceEqDiff, ↓reduceIte, hn, zd.loadO ht6 hl4]
 refine (wX _ s6 c4 o ho6 hso yA).mono ?_
 rintro _ s7 ⟨c7, rfl, ho7, k7⟩
 have n7 := k7.next
 have hl7 := ho7.len
 simp -implicitDefEqProofs (disch := omega) only [allW, Nat.reduceLT, ↓reduceIte, hn, zO, plO]
 refine ze ?_
 intro s8 ht8 hst8 hnx8
 simp -implicitDefEqProofs (disch := omega) only [allW, Nat.reduceLT, Nat.reduceEqDiff, ↓reduceIte, hn, hd6]
 refine zi szO (by decide) ht8 rfl rfl hl7 ho7.ok ?_
 intro s9 ht9 nt9 et9
 have ht9 : zd s9 s7.next c7 := ht9
 have k69 : Stay s6.next s6 s9 := (k7.trans (hst8.weaken n7)).trans ⟨by omega, fun j hj => et9 j (by omega)⟩
 have n69 := k69.next
 have oty : OIs (fun j => s6.next ≤ j ∧ j < s7.next) s9 c7 (getO o yA) := (ho7.lows.keeps hst8).ofPut nt9 et9 (by omega)
 have hW9 := hW6.keeps k69
 have ho9 := ho6.keeps k69
 have ht69 := ht6.keeps k69
 simp -implicitDefEqProofs (disch := omega) only [allW]
 obtain ⟨B, hB⟩ : ∃ B : Nat -> Bool, B = fun j => decide (j < s9.next) := ⟨_, rfl⟩
 have hBl : ∀ j, B j = true -> j < s9.next := by
  intro j h
  rw [hB] at h
  exact of_decide_eq_true h
 have hBo : ∀ j, j < s9.next -> B j = true := fun j h => by rw [hB]; exact decide_eq_true h
 refine LB.Drawn.looseK B hBl 0 2 (by kernel_rfl) (by kernel_rfl) ?_
 have hsq := Stay.spare s9 2
 have hnq : (spare s9 2).next = s9.next + 2 := zH _ _
 have ml1 : ∀ k, LA.lowV B (some (.pointer (some ⟨w, k, some 13⟩))) = true := fun k => LA.lowV_ptr (A := B) (i := w) (hBo _ hW9.thing.lt)
 have ml2 : ∀ k, LA.lowV B (some (.pointer (some ⟨s4.next, k, some 6⟩))) = true := fun k => LA.lowV_ptr (A := B) (i := s4.next) (hBo _ ht69.lt)
 simp -implicitDefEqProofs (disch := omega) only [allW, allL, allB, zn, Nat.reduceLT, Nat.reduceEqDiff, ↓reduceIte, hn, h0, rm0, Zg (hW9.thing.keeps hsq) htl, zd.loadO (ht69.keeps hsq) hl4, ml1, ml2, hW9.doc.self, ho9.self, KY]
 refine LB.smake_newSlice (base := s9.next) (by rfl) (by omega) (Nat.le_refl _) ?_
 intro kv sa hkv hid k9a nxa ota
 have k9a' : Stay s9.next s9 sa := hsq.trans k9a
 have hkv : Sees sa 1 kv [yX].length (strs [yX]) := hkv.sees
 have nsa := k9a'.next
 try simp -implicitDefEqProofs (disch := omega) only [allW, allR, allB, Nat.reduceSub, zc, Nat.reduceLT, Nat.reduceEqDiff, ↓reduceIte, hn]
 refine (Qd (fun j => zY w m lv j ∧ j < s9.next) sa D mv tc iv ic (hW9.doc.lows.keeps k9a') hs c4 o (ho9.lows.keeps k9a') hso kv [yX] hkv (by decide)).mono ?_
 rintro _ sb ⟨cb, rfl, hob, kb⟩
 have nb := kb.next
 have hlb := hob.len
 refine ⟨fun h => h.elim, ?_⟩
 have k9b : Stay s9.next s9 sb := k9a'.trans (kb.weaken nsa)
 simp -implicitDefEqProofs (disch := omega) only [allW, ↓reduceIte, zO, plO]
 refine LB.smake_newPtr (by omega) ?_
 intro sc htc ntc etc
 simp -implicitDefEqProofs (disch := omega) only [allW, allB, Nat.reduceLT, Nat.reduceEqDiff, ↓reduceIte, hn, hd6]
 refine LB.sstep_storeAll szO (by decide) htc rfl rfl (by simpa using hlb) hob.ok (fun h => absurd rfl h) ?_
 intro sd htd ntd etd
 have htd : zd sd (s9.next + 1) cb := htd
 have okd : OIs (zY w m lv) sd cb (xF D.items (resD D.items o) [yX]) := ((hob.ofPut ntc etc (fun h => by rcases h with ⟨_, h⟩ | h <;> omega)).ofPut ntd etd (fun h => by rcases h with ⟨_, h⟩ | h <;> omega)).mono fun j h => h.elim (fun h => h.1) (fun (h : _ ≤ j) => hfr j (by omega))
 have k9d : Stay s9.next s9 sd := k9b.trans ⟨by omega, fun j hj => by rw [etd j (by omega), etc j (by omega)]⟩
 refine LB.scall_reframe (fun f => f.n = 155 ∧ f.get 0 = .pointer (some ⟨w, 0, some 13⟩) ∧ f.get 1 = .int .i64 n ∧ f.get 5 = .pointer (some ⟨s.next, 0, some 6⟩) ∧ f.get 6 = .pointer (some ⟨s4.next, 0, some 6⟩) ∧ f.get 7 = .bool ok ∧ f.get 8 = .pointer (some ⟨s7.next, 0, some 6⟩) ∧ f.get 9 = .pointer (some ⟨s9.next + 1, 0, some 6⟩)) ⟨by simp only [zf, hn], by first | simp only [za, ↓reduceIte, Nat.reduceEqDiff, h0] | simp only [za, zf, ↓reduceIte, Nat.reduceEqDiff], by first | simp only [za, ↓reduceIte, Nat.reduceEqDiff, h1] | simp only [za, zf, ↓reduceIte, Nat.reduceEqDiff], by first | simp only [za, ↓reduceIte, Nat.reduceEqDiff, h5] | simp only [za, zf, ↓reduceIte, Nat.reduceEqDiff], by first | simp only [za, zf, ↓reduceIte, Nat.reduceEqDiff, h6] | simp only [za, ↓reduceIte, Nat.reduceEqDiff], by first | simp only [za, zf, ↓reduceIte, Nat.reduceEqDiff, h7] | simp only [za, ↓reduceIte, Nat.reduceEqDiff], by first | simp only [za, zf, ↓reduceIte, Nat.reduceEqDiff, h8] | simp only [za, ↓reduceIte, Nat.reduceEqDiff], by first | simp only [za, zf, ↓reduceIte, Nat.reduceEqDiff, h9] | simp only [za, ↓reduceIte]⟩ ?_
 rintro f ⟨hn, h0, h1, h5, h6, h7, h8, h9⟩
 have n9d := k9d.next
 have hWd := hW9.keeps k9d
 have hod := ho9.keeps k9d
 have ht6d := ht69.keeps k9d
 have ht9d := ht9.keeps k9d
 have otyd := oty.keeps k9d
 have htad := (ht16.keeps k69).keeps k9d
 have had := (ha6.keeps k69).keeps k9d
 have hsd : WTo w m lv lv s sd := (hs4.trans (WTo.ofStay k46)).trans ((WTo.ofStay k69).trans (WTo.ofStay k9d))
 clear ht5 ht8 ht69 ho9 hW9 oty hob hkv htc etc etd ota et6 et9 ho6 hW6 ht16 ha6 ml1 ml2 hBo hBl hB
 have lk : zg Try.prog sd 3 (.pointer (some ⟨s4.next, 0, some 6⟩)) = some (.int .i64 o.kind) := by
  rw [ht6d.load (P := Try.prog) zT (off := 0) (c := 6) (by rw [hl4]) (by omega), hod.kindC.1]
 obtain ⟨KO, hKO⟩ : ∃ KO, KO = xF D.items (resD D.items o) [yX] := ⟨_, rfl⟩
 have hsK : zu KO := by rw [hKO]; exact xG hs.items (yv _ _ (xG hs.items hso))
 rw [← hKO] at okd
 have lkk : zg Try.prog sd 3 (.pointer (some ⟨s9.next + 1, 0, some 6⟩)) = some (.int .i64 KO.kind) := by
  rw [htd.load (P := Try.prog) zT (off := 0) (c := 6) (by rw [hlb]) (by omega), okd.kindC.1]
 by_cases c3 : ok = false ∨ o.kind ≠ 7
 ·rw [if_pos c3]
  cases hok : ok
  ·rw [hok] at h7
   simp -implicitDefEqProofs (disch := omega) only [allW, allR, allB, Nat.reduceSub, Nat.reduceLT, Nat.reduceEqDiff, ↓reduceIte, allW, allR, Nat.reduceLT, Nat.reduceEqDiff, ↓reduceIte, undef, hn, h0, h7, rm3]
   refine yF yP hWd.thing (off := 11) (c := 13) (by rw [yo htl]) (by rw [yo htl]; decide) (v := .int .i64 4) rfl ?_
   intro u6 hu6 nu6 eu6
   simp -implicitDefEqProofs (disch := omega) only [allW]
   exact bad sd W3 4 _ u6 hWd hsd (by simp only [zf, hn]) hu6 nu6 eu6
  ·rw [hok] at c3 h7
   have cd7 : ¬ o.kind = 7 := by simpa using c3
   simp -implicitDefEqProofs (disch := omega) only [allW, allR, allB, Nat.reduceSub, Nat.reduceLT, Nat.reduceEqDiff, ↓reduceIte, allW, allR, Nat.reduceLT, Nat.reduceEqDiff, ↓reduceIte, undef, hn, h0, h6, h7, of0, lk, eq_true cd7, rm3]
   refine yF yP hWd.thing (off := 11) (c := 13) (by rw [yo htl]) (by rw [yo htl]; decide) (v := .int .i64 4) rfl ?_
   intro u6 hu6 nu6 eu6
   simp -implicitDefEqProofs (disch := omega) only [allW]
   exact bad sd W3 4 _ u6 hWd hsd (by simp only [zf, hn]) hu6 nu6 eu6
 rw [if_neg c3]
 have hok : ok = true := by cases ok <;> simp_all
 have cd7 : o.kind = 7 := by by_cases h : o.kind = 7; exact h; exact absurd (.inr h) c3
 rw [hok] at h7
 have hrs : resD D.items o = o := Jw (by rw [cd7]; decide)
 rw [hrs] at hKO
 rw [← hKO]
 simp -implicitDefEqProofs (disch := omega) only [allW, allR, allB, Nat.reduceSub, zc, Nat.reduceLT, Nat.reduceEqDiff, ↓reduceIte, allW, allR, zc, Nat.reduceLT, Nat.reduceEqDiff, ↓reduceIte, undef, hn, h6, h7, h8, of0, lk, cd7, not_true, zd.loadO ht9d hl7]
 generalize hKK : Vc Try.prog libN (Code.seq (Code.region 12 _ _) _) _ = K
 have go : ∀ (f : AFr) (t : ASt), f.n = 155 -> f.get 0 = .pointer (some ⟨w, 0, some 13⟩) -> f.get 1 = .int .i64 n -> f.get 5 = .pointer (some ⟨s.next, 0, some 6⟩) -> f.get 6 = .pointer (some ⟨s4.next, 0, some 6⟩) -> f.get 8 = .pointer (some ⟨s7.next, 0, some 6⟩) -> f.get 9 = .pointer (some ⟨s9.next + 1, 0, some 6⟩) -> Stay sd.next sd t -> (isN (getO o yA) wP = true ∨ (isN (getO o yA) zS = true ∧ KO.kind = 6)) -> K .normal f t := by
  clear hn h0 h1 h5 h6 h7 h8 h9 f
  intro f t hn h0 h1 h5 h6 h8 h9 kdt hcond
  have ndt := kdt.next
  have hWt := hWd.keeps kdt
  have htat := htad.keeps kdt
  have hat := had.keeps kdt
  have hto : WTo w m lv lv s t := hsd.trans (WTo.ofStay kdt)
  have hif : (if isN (getO o yA) wP = true then xv D.items n o (wQ o above) W3 else if isN (getO o yA) zS = false ∨ KO.kind ≠ 6 then (W3, 4) else yQ (yl D.items k) (wQ o above) KO.items W3) = (if isN (getO o yA) wP = true then xv D.items n o (wQ o above) W3 else yQ (yl D.items k) (wQ o above) KO.items W3) := by
   by_cases h : isN (getO o yA) wP = true
   ·rw [if_pos h, if_pos h]
   ·rw [if_neg h, if_neg h]
    rcases hcond with h2 | ⟨h2, h3⟩
    ·exact absurd h2 h
    ·rw [if_neg (by rw [h2, h3]; simp)]
  subst hKK
  rw [hif]
  simp -implicitDefEqProofs (disch := omega) only [allW, zn, UO]
  refine yw (by rfl) ?_
  intro b t1 hb hbF kt1
  have nt1 := kt1.next
  simp -implicitDefEqProofs (disch := omega) only [allW, Nat.reduceLT, Nat.reduceEqDiff, ↓reduceIte, hn, h5, zd.loadO (htat.keeps kt1) hal, zO, plO]
  refine ze ?_
  intro t2 ht2 kt2 nx2
  simp -implicitDefEqProofs (disch := omega) only [allW, Nat.reduceLT, Nat.reduceEqDiff, ↓reduceIte, hn, hd6]
  refine zi szO (by decide) ht2 rfl rfl hal hat.ok ?_
  intro t3 ht3 nt3 et3
  have ht3 : zd t3 t1.next ca := ht3
  have kt13 : Stay t1.next t1 t3 := kt2.trans ⟨by omega, fun j hj => et3 j (by omega)⟩
  have kt03 : Stay t.next t t3 := kt1.trans (kt13.weaken nt1)
  have nt03 := kt03.next
  have kd3 : Stay sd.next sd t3 := kdt.trans (kt03.weaken ndt)
  have hb3 : Sees t3 1 b yR.length (strs yR) := hb.sees.keeps kt13
  have hl4' : yR.length = 4 := rfl
  have hbid : ∀ j, idOf b = some j -> t.next ≤ j ∧ j < t1.next := fun j hj => ⟨hbF j hj, hb.idLt j hj⟩
  have had3 : OIs (fun j => zY w m lv j ∧ j ≠ t1.next) t3 ca above := (had.lows.keeps kd3).mono fun j h => ⟨h.1, by omega⟩
  have hod3 : OIs (fun j => zY w m lv j ∧ j ≠ t1.next) t3 c4 o := (hod.lows.keeps kd3).mono fun j h => ⟨h.1, by omega⟩
  have ht63 := ht6d.keeps kd3
  simp -implicitDefEqProofs (disch := omega) only [allW, Nat.reduceLT, ↓reduceIte, undef, hn]
  refine yf.loopOut (fun z f u => ∃ (i : Nat) (ca' : List Value), z = 4 - i ∧ i ≤ 4 ∧ OIs (fun j => zY w m lv j ∧ j ≠ t1.next) u ca' ((yR.take i).foldl (xU o) above) ∧ zd u t1.next ca' ∧ Stay t1.next t3 u ∧ f.n = 155 ∧ f.get 0 = .pointer (some ⟨w, 0, some 13⟩) ∧ f.get 1 = .int .i64 n ∧ f.get 6 = .pointer (some ⟨s4.next, 0, some 6⟩) ∧ f.get 8 = .pointer (some ⟨s7.next, 0, some 6⟩) ∧ f.get 9 = .pointer (some ⟨s9.next + 1, 0, some 6⟩) ∧ f.get 10 = b ∧ f.get 11 = .pointer (some ⟨t1.next, 0, some 6⟩) ∧ f.get 12 = .int .i64 (i : Nat))
   (fun z f u => z = .exit 0 ∧ ∃ ca' : List Value, OIs (fun j => zY w m lv j ∧ j ≠ t1.next) u ca' (wQ o above) ∧ zd u t1.next ca' ∧ Stay t1.next t3 u ∧ f.n = 155 ∧ f.get 0 = .pointer (some ⟨w, 0, some 13⟩) ∧ f.get 1 = .int .i64 n ∧ f.get 6 = .pointer (some ⟨s4.next, 0, some 6⟩) ∧ f.get 8 = .pointer (some ⟨s7.next, 0, some 6⟩) ∧ f.get 9 = .pointer (some ⟨s9.next + 1, 0, some 6⟩) ∧ f.get 11 = .pointer (some ⟨t1.next, 0, some 6⟩))
   ⟨0, ca, rfl, by omega, had3, ht3, Stay.refl _ _, by simp only [zf, hn], by simp only [za, ↓reduceIte, Nat.reduceEqDiff, h0], by simp only [za, ↓reduceIte, Nat.reduceEqDiff, h1], by simp only [za, ↓reduceIte, Nat.reduceEqDiff, h6], by simp only [za, ↓reduceIte, Nat.reduceEqDiff, h8], by simp only [za, ↓reduceIte, Nat.reduceEqDiff, h9], by simp only [za, ↓reduceIte, Nat.reduceEqDiff], by simp only [za, ↓reduceIte, Nat.reduceEqDiff], by simp only [za, ↓reduceIte]; rfl⟩ ?_ ?_
  ·clear hn h0 h1 h5 h6 h8 h9 f
   rintro Q hQ z f u ⟨i, ca', rfl, hi, hoa, hta, kst, hn, h0, h1, h6, h8, h9, h10, h11, h12⟩
   have hal' := hoa.len
   have nu := kst.next
   have hbu : Sees u 1 b yR.length (strs yR) := by
    refine hb3.calm (F := fun j => t.next ≤ j ∧ j < t1.next) (Foot.of_id hbid) ⟨nu, fun j _ h => kst.get j h.2⟩
   have hou : OIs (fun j => (zY w m lv j ∧ j ≠ t1.next)) u c4 o := ((hod.lows).calm (F := fun j => zY w m lv j ∧ j < sd.next) ((Calm.ofStay kd3).trans ⟨nu, fun j _ h => kst.get j (by have := h.2; omega)⟩)).mono fun j h => ⟨h.1, by have := h.2; omega⟩
   have ht6u : zd u s4.next c4 := ht63.calm (F := fun j => j < t1.next) ⟨nu, fun j _ h => kst.get j h⟩ (by have := ht6d.lt; show s4.next < t1.next; omega)
   by_cases hlt : i < 4
   rotate_left
   ·obtain rfl : i = 4 := by omega
    have d1 : ¬ ((4 : Nat) : Int) < 4 := by decide
    simp -implicitDefEqProofs (disch := omega) only [allW, allR, zc, Nat.reduceLT, Nat.reduceEqDiff, ↓reduceIte, hn, h10, h12, hbu.lenA Try.underlying109, hl4']
    exact hQ _ _ _ ⟨rfl, ca', hoa, hta, kst, by simp only [zf, hn], by simp only [za, ↓reduceIte, Nat.reduceEqDiff, h0], by simp only [za, ↓reduceIte, Nat.reduceEqDiff, h1], by simp only [za, ↓reduceIte, Nat.reduceEqDiff, h6], by simp only [za, ↓reduceIte, Nat.reduceEqDiff, h8], by simp only [za, ↓reduceIte, Nat.reduceEqDiff, h9], by simp only [za, ↓reduceIte, Nat.reduceEqDiff, h11]⟩
   have d1 : (i : Int) < 4 := by omega
   have hlt2 : i < yR.length := hlt
   obtain ⟨hsA, hlA⟩ := qD (o := o) hso (yR.take i) hsa (Nat.le_refl _) (by rw [List.length_take]; omega) (fun k hk => qO k (List.mem_of_mem_take hk))
   have hstep := VY (o := o) (above := above) hlt2
   have hkl : yR[i].length ≤ 100000 := qO _ (List.getElem_mem hlt2)
   obtain ⟨K, hK⟩ : ∃ K, K = yR[i] := ⟨_, rfl⟩
   have hld : ∀ v, Sees v 1 b yR.length (strs yR) -> zg Try.prog v 9 (zL 1 b i) = some (.string ⟨K.toArray⟩) := fun v h => by
    have := h.load1 (P := Try.prog) xy hlt2
    rw [ZE hlt2] at this; rw [this, hK]
   have hix : yp Try.prog 109 b (.int .i64 (i : Nat)) = some (zL 1 b i) := by
    have := hbu.indexAddr (P := Try.prog) (k := .i64) (x := (i : Int)) Try.underlying109 jf (by omega) (by omega)
    rw [Int.toNat_natCast] at this; exact this
   rw [← hK] at hstep hkl
   obtain ⟨A, hA⟩ : ∃ A, A = (yR.take i).foldl (xU o) above := ⟨_, rfl⟩
   rw [← hA] at hoa hsA hlA hstep
   simp -implicitDefEqProofs (disch := omega) only [allW, allR, zc, Nat.reduceLT, Nat.reduceEqDiff, ↓reduceIte, hn, h10, h12, hbu.lenA Try.underlying109, hl4', eq_true hlt]
   obtain ⟨B, hB⟩ : ∃ B : Nat -> Bool, B = fun j => decide (j < u.next) := ⟨_, rfl⟩
   have hBl : ∀ j, B j = true -> j < u.next := by
    intro j h
    rw [hB] at h
    exact of_decide_eq_true h
   have hBo : ∀ j, j < u.next -> B j = true := fun j h => by rw [hB]; exact decide_eq_true h
   refine LB.Drawn.looseK B hBl 0 1 (by kernel_rfl) (by kernel_rfl) ?_
   have hsq := Stay.spare u 1
   have hnq : (spare u 1).next = u.next + 1 := zH _ _
   have ml2 : ∀ k, LA.lowV B (some (.pointer (some ⟨s4.next, k, some 6⟩))) = true := fun k => LA.lowV_ptr (A := B) (i := s4.next) (hBo _ ht6u.lt)
   simp -implicitDefEqProofs (disch := omega) only [allW, allR, allL, allB, Nat.reduceSub, zc, Nat.reduceLT, Nat.reduceEqDiff, ↓reduceIte, hn, h6, h10, h12, zd.loadO (ht6u.keeps hsq) hl4, ml2, hou.self, hix, hld _ (hbu.keeps hsq), hbu.self, LA.lowV_elemOld hbu hBo hlt2]
   refine (wX _ (spare u 1) c4 o (hou.keeps hsq) hso K).mono ?_
   rintro _ u1 ⟨c1, rfl, ho1, k1⟩
   have m1 := k1.next
   have hl1 := ho1.len
   have hs1 := yv o K hso
   refine ⟨fun h => h.elim, ?_⟩
   simp -implicitDefEqProofs (disch := omega) only [allW, ↓reduceIte, zO, plO]
   refine LB.smake_newPtr (by omega) ?_
   intro u2 hu2 nu2 eu2
   simp -implicitDefEqProofs (disch := omega) only [allW, allB, Nat.reduceLT, Nat.reduceEqDiff, ↓reduceIte, hn, hd6]
   refine LB.sstep_storeAll szO (by decide) hu2 rfl rfl (by simpa using hl1) ho1.ok (fun h => absurd rfl h) ?_
   intro u3 hu3 nu3 eu3
   have hu3 : zd u3 u.next c1 := hu3
   have k3 : Stay u.next u u3 := (hsq.trans (k1.weaken (by omega))).trans ⟨by omega, fun j hj => by rw [eu3 j (by omega), eu2 j (by omega)]⟩
   have m3 := k3.next
   have ho3 : OIs (fun j => u.next + 1 ≤ j) u3 c1 (getO o K) := ((ho1.mono (G := fun j => u.next + 1 ≤ j) (fun j (hj : _ ≤ j) => by omega)).ofPut nu2 eu2 (by omega)).ofPut nu3 eu3 (by omega)
   have lkx : zg Try.prog u3 3 (.pointer (some ⟨u.next, 0, some 6⟩)) = some (.int .i64 (getO o K).kind) := by
    rw [hu3.load (P := Try.prog) zT (off := 0) (c := 6) (by rw [hl1]) (by omega), ho3.kindC.1]
   have hoa3 := hoa.keeps k3
   have hta3 := hta.keeps k3
   have hbu3 := hbu.keeps k3
   have hqlt := hta.lt
   by_cases c0 : (getO o K).kind = 0
   ·have e : xU o A K = A := by unfold xU; rw [if_pos c0]
    rw [e] at hstep
    simp -implicitDefEqProofs (disch := omega) only [allW, allR, allB, Nat.reduceSub, Nat.reduceLT, Nat.reduceEqDiff, ↓reduceIte, allW, allR, Nat.reduceLT, Nat.reduceEqDiff, ↓reduceIte, undef, hn, h12, of0, lkx, c0, not_true, zR]
    exact zz (4 - (i + 1)) (by omega) ⟨i + 1, ca', rfl, by omega, by rw [hstep]; exact hoa3, hta3, kst.trans (k3.weaken (by omega)), by simp only [zf, hn], by simp only [za, ↓reduceIte, Nat.reduceEqDiff, h0], by simp only [za, ↓reduceIte, Nat.reduceEqDiff, h1], by simp only [za, ↓reduceIte, Nat.reduceEqDiff, h6], by simp only [za, ↓reduceIte, Nat.reduceEqDiff, h8], by simp only [za, ↓reduceIte, Nat.reduceEqDiff, h9], by simp only [za, ↓reduceIte, Nat.reduceEqDiff, h10], by simp only [za, ↓reduceIte, Nat.reduceEqDiff, h11], by simp only [za, ↓reduceIte]; rfl⟩
   have e : xU o A K = setO A [(K, getO o K)] := by unfold xU; rw [if_neg c0]
   rw [e] at hstep
   simp -implicitDefEqProofs (disch := omega) only [allW, allB, Nat.reduceSub, Nat.reduceLT, ↓reduceIte, allW, Nat.reduceLT, ↓reduceIte, undef, hn, of0, lkx, eq_true c0]
   obtain ⟨C, hC⟩ : ∃ B : Nat -> Bool, B = fun j => decide (j < u3.next) := ⟨_, rfl⟩
   have hCl : ∀ j, C j = true -> j < u3.next := by
    intro j h
    rw [hC] at h
    exact of_decide_eq_true h
   have hCo : ∀ j, j < u3.next -> C j = true := fun j h => by rw [hC]; exact decide_eq_true h
   refine LB.Drawn.looseK C hCl 2 1 (by kernel_rfl) (by kernel_rfl) ?_
   have hsr := Stay.spare u3 1
   have hnr : (spare u3 1).next = u3.next + 1 := zH _ _
   have ml3 : ∀ k, LA.lowV C (some (.pointer (some ⟨t1.next, k, some 6⟩))) = true := fun k => LA.lowV_ptr (A := C) (i := t1.next) (hCo _ hta3.lt)
   have ml4 : ∀ k, LA.lowV C (some (.pointer (some ⟨u.next, k, some 6⟩))) = true := fun k => LA.lowV_ptr (A := C) (i := u.next) (hCo _ hu3.lt)
   simp -implicitDefEqProofs (disch := omega) only [allW, allR, allL, allB, Nat.add_one_sub_one, zc, zn, Nat.reduceLT, Nat.reduceEqDiff, ↓reduceIte, hn, h10, h11, h12, zd.loadO (hta3.keeps hsr) hal', zd.loadO (hu3.keeps hsr) hl1, ml3, ml4, hoa3.self, ho3.self, hix, hld _ (hbu3.keeps hsr), hbu3.self, LA.lowV_elemOld hbu3 hCo hlt2]
   refine (vz rfl rfl rfl _ (spare u3 1) K c1 _ (ho3.keeps hsr) hs1).mono ?_
   rintro _ u4 ⟨c4', rfl, ho4', k4'⟩
   have m4 := k4'.next
   have hl4'' := ho4'.len
   refine ⟨fun _ => LA.Stay.toA hCl (k4'.weaken (by omega)), ?_⟩
   have k34 : Stay u3.next u3 u4 := hsr.trans (k4'.weaken (by omega))
   obtain ⟨es, hes⟩ : ∃ es, es = Value.string ⟨K.toArray⟩ :: c4' := ⟨_, rfl⟩
   have hel : es.length = 6 := by rw [hes, List.length_cons, hl4'']
   have hself : zD (.agg es.toArray) (.agg es.toArray) = true := by rw [hes]; exact Ju hl4'' ho4'.self
   rw [← hes]
   simp -implicitDefEqProofs (disch := omega) only [yS (cs := es.toArray) Try.underlying29 szE zE plE rfl hel (by decide)]
   refine LB.smake_newSlice (base := u3.next) hel (by omega) (Nat.le_refl _) ?_
   intro bs u5 hbs hid' hst5' hnx5' hot5
   have ho5 : OIs (fun j => u3.next + 1 ≤ j) u5 c4' (getO o K) := (ho4'.mono (fun j (hj : _ ≤ j) => by omega)).ofPut hnx5' hot5 (by omega)
   have k35 : Stay u3.next u3 u5 := k34.trans hst5'
   have m5 := k35.next
   have hrow : zt yg 6 (fun j => u3.next + 1 ≤ j) u5 [(K, getO o K)] es := by
    refine zt.snoc (D := []) (lc := []) zt.nil hel ⟨c4', hes, ho5, Nat.le_trans hkl (by decide)⟩
   have hoa5 := hoa3.keeps k35
   try simp -implicitDefEqProofs (disch := omega) only [allW, allR, allB, Nat.sub_self, zc, Nat.reduceLT, Nat.reduceEqDiff, ↓reduceIte, hn, h11]
   refine (aah Xl _ u5 ca' A hoa5 hsA bs [(K, getO o K)] es hbs.sees (hrow.mono zZ (fun j (hj : _ ≤ j) => ⟨hfr j (by have := hto.next; omega), by omega⟩)) (by simp) (fun e he => by
    obtain rfl : e = (K, getO o K) := by simpa using he
    exact hs1)).mono ?_
   rintro _ u6 ⟨c6, rfl, ho6', k6'⟩
   have m6 := k6'.next
   refine ⟨fun _ => LA.Stay.toA hCl (k6'.weaken (by omega)), ?_⟩
   have hl6 := ho6'.len
   have k36 : Stay u3.next u3 u6 := k35.trans (k6'.weaken (by omega))
   try simp -implicitDefEqProofs (disch := omega) only [allW, allR, allL, allB, Nat.sub_self, Nat.add_one_sub_one, Nat.reduceSub, zh, zc, zn, optA, Nat.reduceLT, Nat.reduceLeDiff, Nat.reduceEqDiff, Nat.reduceAdd, ↓reduceIte, hn, h0, h1, h6, h8, h9, h10, h11, h12, ho6'.self]
   refine LB.sstep_storeAll szO (by decide) (hta3.keeps k36) hal' rfl (by simpa using hl6) ho6'.ok (fun h => absurd rfl h) ?_
   intro u7 hu7 nu7 eu7
   have hu7 : zd u7 t1.next c6 := hu7
   have k37 : Stay t1.next u3 u7 := (k36.weaken (by omega)).trans ⟨by omega, fun j hj => eu7 j (by omega)⟩
   simp -implicitDefEqProofs (disch := omega) only [allW, allB, Nat.reduceSub, Nat.reduceLT, Nat.reduceEqDiff, ↓reduceIte, allW, Nat.reduceLT, Nat.reduceEqDiff, ↓reduceIte, hn, h12, zR]
   exact zz (4 - (i + 1)) (by omega) ⟨i + 1, c6, rfl, by omega, by rw [hstep]; exact (ho6'.ofPut nu7 eu7 (by omega)).mono (fun j (hj : _ ≤ j) => ⟨hfr j (by have := hto.next; omega), by omega⟩), hu7, (kst.trans (k3.weaken (by omega))).trans k37, by simp only [zf, hn], by simp only [za, ↓reduceIte, Nat.reduceEqDiff, h0], by simp only [za, ↓reduceIte, Nat.reduceEqDiff, h1], by simp only [za, ↓reduceIte, Nat.reduceEqDiff, h6], by simp only [za, ↓reduceIte, Nat.reduceEqDiff, h8], by simp only [za, ↓reduceIte, Nat.reduceEqDiff, h9], by simp only [za, ↓reduceIte, Nat.reduceEqDiff, h10], by simp only [za, ↓reduceIte, Nat.reduceEqDiff, h11], by simp only [za, ↓reduceIte]; rfl⟩
  clear hn h0 h1 h5 h6 h8 h9 f
  rintro z f u ⟨rfl, cm, hmi, htm, kst, hn, h0, h1, h6, h8, h9, h11⟩
  have hml := hmi.len
  have nu := kst.next
  obtain ⟨hsm, hml2⟩ := XZ (o := o) hso hsa (Nat.le_refl _) (by omega)
  obtain ⟨mine, hmine⟩ : ∃ x, x = wQ o above := ⟨_, rfl⟩
  rw [← hmine] at hmi hsm hml2 ⊢
  have kdu : Stay sd.next sd u := ⟨by have := kd3.next; omega, fun j hj => (kst.get j (by omega)).trans (kd3.get j hj)⟩
  have hWu := hWd.keeps kdu
  have htu : WTo w m lv lv s u := hsd.trans (WTo.ofStay kdu)
  have ht6u := ht6d.keeps kdu
  have ht9u := ht9d.keeps kdu
  have htdu := htd.keeps kdu
  have okdu := okd.keeps kdu
  have hou : OIs (zY w m lv) u c4 o := hod.keeps kdu
  have hmu : OIs (zY w m lv) u cm mine := hmi.mono fun j h => h.1
  simp -implicitDefEqProofs (disch := omega) only [allW, allR, zc, Nat.reduceLT, ↓reduceIte, hn, h8, zd.loadO ht9u hl7]
  refine (kI _ u c7 _ (otyd.keeps kdu) wP).mono ?_
  rintro _ v1 ⟨rfl, kv1⟩
  have nv1 := kv1.next
  have hW1 := hWu.keeps kv1
  have ht1 : WTo w m lv lv s v1 := htu.trans (WTo.ofStay kv1)
  cases hp : isN (getO o yA) wP
  rotate_left
  ·rw [if_pos rfl]
   simp -implicitDefEqProofs (disch := omega) only [allW, allR, zc, Nat.reduceLT, Nat.reduceEqDiff, ↓reduceIte, hn, h0, h1, h6, h11, zd.loadO (ht6u.keeps kv1) hl4, zd.loadO (htm.keeps kv1) hml]
   refine (SG _ v1 w D mv tc iv ic m lv W3 hW1 hs n _ c4 o (hou.keeps kv1) hso cm mine (hmu.keeps kv1) hsm).mono ?_
   rintro _ v2 ⟨lv', q1, q2⟩
   simp -implicitDefEqProofs (disch := omega) only [allW, zh, Nat.reduceLT, ↓reduceIte, allW, zj, zh, Nat.reduceLT, ↓reduceIte, hn, Try.results34]
   exact ⟨lv', q1, ht1.trans q2⟩
  rw [if_neg (by decide)]
  have hW3s : W3.seen.length = W.seen.length + 1 := by rw [hW3e]; rfl
  have htd1 := htdu.keeps kv1
  have okd1 := okdu.keeps kv1
  have htm1 := htm.keeps kv1
  have hmu1 := hmu.keeps kv1
  clear htd htdu okd okdu htm hmu hmi htad had hat htat hod ht6d ht9d otyd ht6u ht9u hou ht63 hod3 had3 hb3 ht2 ht3 et3 lk lkk hWd hW4 hW3 ht14 ha4 ho4 hb hbF hbid hWt hWu hif bad
  cases KO with
  | mk kk kn kb kl kd =>
  obtain ⟨kbv, klv, kdv, klc, kdc, rfl, hkb, hkl, hkd, fkb, fkl, fkd, rkl, rkd⟩ := okd1.parts
  have hsl : kl.length ≤ 100000 := by cases hsK with | mk _ h _ _ _ _ => exact h
  have eit : (O.mk kk kn kb kl kd).items = kl := rfl
  rw [eit]
  simp -implicitDefEqProofs (disch := omega) only [allW, Nat.reduceLT, ↓reduceIte, hn]
  have sp := hsm
  refine yf.loopOut (fun z f t => ∃ (i : Nat) (lv' : Value) (r : WkO × Nat), z = kl.length - i ∧ i ≤ kl.length ∧ yQ (yl D.items k) mine kl W3 = (if r.2 = 0 then yQ (yl D.items k) mine (kl.drop i) r.1 else r) ∧ (r.2 = 0 -> r.1.seen.length + k ≥ 4001 ∧ r.1.seen.length ≤ 4000) ∧ PwIs (rwC D mv tc iv m r.2) (.int .i64 1) t w D mv tc iv ic m lv' r.1 ∧ WTo w m lv lv' s t ∧ OIs (zY w m lv') t cm mine ∧ zY w m lv' t1.next ∧ zd t t1.next cm ∧ zY w m lv' (s9.next + 1) ∧ zd t (s9.next + 1) [.int .i64 kk, .int .i64 kn, kbv, klv, kdv] ∧ Sees t 5 klv kl.length klc ∧ Foot (zY w m lv') klv ∧ zt OIs 5 (zY w m lv') t kl klc ∧ f.n = 155 ∧ f.get 0 = .pointer (some ⟨w, 0, some 13⟩) ∧ f.get 9 = .pointer (some ⟨s9.next + 1, 0, some 6⟩) ∧ f.get 11 = .pointer (some ⟨t1.next, 0, some 6⟩) ∧ f.get 14 = .int .i64 (i : Nat))
   (fun z f t => f.n = 155 ∧ (z = .exit 2 ∨ z = .ret) ∧ ∃ lv', PwIs (rwC D mv tc iv m (yQ (yl D.items k) mine kl W3).2) (.int .i64 1) t w D mv tc iv ic m lv' (yQ (yl D.items k) mine kl W3).1 ∧ WTo w m lv lv' s t)
   ⟨0, lv, (W3, 0), rfl, by omega, by rw [if_pos rfl, List.drop_zero], fun _ => ⟨by show W3.seen.length + k ≥ 4001; omega, by show W3.seen.length ≤ 4000; omega⟩, hW1, ht1, hmu1, hfr _ (by have := hto.next; omega), htm1, hfr _ (by omega), htd1, hkl, fkl, rkl, by simp only [zf, hn], by simp only [za, ↓reduceIte, Nat.reduceEqDiff, h0], by simp only [za, ↓reduceIte, Nat.reduceEqDiff, h9], by simp only [za, ↓reduceIte, Nat.reduceEqDiff, h11], by simp only [za, ↓reduceIte]; rfl⟩ ?_ ?_
  ·clear hn h0 h1 h6 h8 h9 h11 hkl fkl rkl htm1 hmu1 hW1 f
   rintro Q hQ z f t ⟨i, lv', r, rfl, hi, hkeq, hsk, hWt, hto', hmt, hfb, hbt, hfk, hkth, hkt, fkt, rkt, hn, h0, h9, h11, h14⟩
   have ll9 : zg Try.prog t 28 (.pointer (some ⟨s9.next + 1, 3, some 6⟩)) = some klv := hkth.load agLs (off := 3) (c := 6) rfl (by simp)
   by_cases hlt : i < kl.length
   rotate_left
   ·obtain rfl : i = kl.length := by omega
    have d1 : ¬ ((kl.length : Nat) : Int) < ((kl.length : Nat) : Int) := by omega
    rw [List.drop_length] at hkeq
    have hkeq : yQ (yl D.items k) mine kl W3 = r := by
     rw [hkeq]
     split
     ·rename_i h0; show (r.1, 0) = r; rw [← h0]
     ·rfl
    simp -implicitDefEqProofs (disch := omega) only [allW, allR, zc, Nat.reduceLT, Nat.reduceEqDiff, ↓reduceIte, undef, hn, h9, h14, of3, ll9, hkt.lenA Try.underlying28, eq_false d1]
    refine hQ _ _ _ ⟨by simp only [zf, hn], .inl rfl, lv', ?_, hto'⟩
    rw [hkeq]; exact hWt
   have d1 : (i : Int) < (kl.length : Int) := by omega
   by_cases c0 : r.2 = 0
   rotate_left
   ·have d2 : ¬ ((r.2 : Nat) : Int) = 0 := by omega
    rw [if_neg c0] at hkeq
    simp -implicitDefEqProofs (disch := omega) only [allW, allR, zc, Nat.reduceLT, Nat.reduceEqDiff, ↓reduceIte, hn, h0, h9, h14, of3, ll9, hkt.lenA Try.underlying28, eq_true d1, rm3, jQ hWt.thing htl, eq_false d2]
    refine hQ _ _ _ ⟨by simp only [zf, hn], .inl rfl, lv', ?_, hto'⟩
    rw [hkeq]; exact hWt
   have d2 : ((r.2 : Nat) : Int) = 0 := by omega
   rw [if_pos c0] at hkeq
   obtain ⟨hsk1, hsk2⟩ := hsk c0
   obtain ⟨W', e'⟩ := r
   obtain rfl : e' = 0 := c0
   have hWt : PwIs (rwC D mv tc iv m 0) (.int .i64 1) t w D mv tc iv ic m lv' W' := hWt
   have hix := hkt.indexAddr (P := Try.prog) (k := .i64) (x := (i : Int)) Try.underlying28 szO (by omega) (by omega)
   rw [Int.toNat_natCast] at hix
   have hoi := rkt.row i hlt
   have hlk := hkt.loadField (P := Try.prog) zT hlt (j := 0) (by omega)
   rw [Nat.add_zero, UK hoi] at hlk
   have hln := hkt.loadField (P := Try.prog) wH hlt (j := 1) (by omega)
   rw [objNum hoi] at hln
   have hef := efO hkt hlt
   have hef1 := efO1 hkt hlt
   have hself : zD klv klv = true := hkt.self
   rw [List.drop_eq_getElem_cons hlt] at hkeq
   obtain ⟨x, hx⟩ : ∃ x, x = kl[i] := ⟨_, rfl⟩
   rw [← hx] at hlk hln hkeq
   have hb0 : ((0 : Nat) : Int) = 0 := rfl
   by_cases c9 : x.kind = 9
   rotate_left
   ·have e : yQ (yl D.items k) mine kl W3 = (W', 4) := by rw [hkeq]; show yQ (yl D.items k) mine (x :: _) W' = _; rw [yQ, if_pos c9]
    simp -implicitDefEqProofs (disch := omega) only [allW, allR, zc, Nat.reduceLT, Nat.reduceEqDiff, ↓reduceIte, hn, h0, h9, h14, of3, ll9, hkt.lenA Try.underlying28, eq_true d1, rm3, jQ hWt.thing htl, hb0, hix, hef, hlk, eq_true c9]
    refine yF yP hWt.thing (off := 11) (c := 13) (by rw [yo htl]) (by rw [yo htl]; decide) (v := .int .i64 4) rfl ?_
    intro u6 hu6 nu6 eu6
    simp -implicitDefEqProofs (disch := omega) only [allW]
    have hu6 : zd u6 w ((rwC D mv tc iv m 0 lv').set 11 (.int .i64 ((4 : Nat) : Int))) := hu6
    rw [KZ htl] at hu6
    obtain ⟨p1, p2⟩ := PwIs.bad (X' := rwC D mv tc iv m 4) hWt hu6 nu6 eu6
    refine hQ _ _ _ ⟨by simp only [zf, hn], .inr rfl, lv', ?_, hto'.trans p2⟩
    rw [e]; exact p1
   have e : yQ (yl D.items k) mine kl W3 = if (yl D.items k x.num mine W').2 ≠ 0 then yl D.items k x.num mine W' else yQ (yl D.items k) mine (kl.drop (i + 1)) (yl D.items k x.num mine W').1 := by
    rw [hkeq]; show yQ (yl D.items k) mine (x :: _) W' = _; rw [yQ, if_neg (fun h => h c9)]
   simp -implicitDefEqProofs (disch := omega) only [allW, allR, zc, Nat.reduceLT, Nat.reduceEqDiff, ↓reduceIte, hn, h0, h9, h14, of3, ll9, hkt.lenA Try.underlying28, eq_true d1, rm3, jQ hWt.thing htl, hb0, hix, hef, hlk, c9, not_true]
   obtain ⟨B, hB⟩ : ∃ B : Nat -> Bool, B = fun j => decide (j < t.next) := ⟨_, rfl⟩
   have hBl : ∀ j, B j = true -> j < t.next := by
    intro j h
    rw [hB] at h
    exact of_decide_eq_true h
   have hBo : ∀ j, j < t.next -> B j = true := fun j h => by rw [hB]; exact decide_eq_true h
   refine LB.Drawn.looseK B hBl 0 0 (by kernel_rfl) (by kernel_rfl) ?_
   have ml1 : ∀ k, LA.lowV B (some (.pointer (some ⟨s9.next + 1, k, some 6⟩))) = true := fun k => LA.lowV_ptr (A := B) (i := s9.next + 1) (hBo _ hkth.lt)
   have ml2 : ∀ k, LA.lowV B (some (.pointer (some ⟨t1.next, k, some 6⟩))) = true := fun k => LA.lowV_ptr (A := B) (i := t1.next) (hBo _ hbt.lt)
   have hlw := LA.lowV_plus (j := 1) hkt hBo hlt
   simp -implicitDefEqProofs (disch := omega) only [allW, allR, allL, allB, Nat.reduceSub, zc, Nat.reduceLT, Nat.reduceEqDiff, ↓reduceIte, xu, hn, h0, h9, h11, h14, of3, ll9, ml1, ml2, hself, hix, hef1, hln, hlw, zd.loadO hbt hml, hmt.self, yC]
   refine (ih t lv' W' x.num cm mine hsk1 hsk2 (by omega) sp hmt hWt).mono ?_
   rintro _ u3 ⟨lv2, hW2, hto23⟩
   refine ⟨fun h => h.elim, ?_⟩
   obtain ⟨r, hr⟩ : ∃ r, r = yl D.items k x.num mine W' := ⟨_, rfl⟩
   have hseen := ZM D.items k x.num mine W' hsk2
   rw [← hr] at e hW2 hseen
   have hto3 : WTo w m lv lv2 s u3 := hto'.trans hto23
   obtain ⟨hkt3, fkt3⟩ := hkt.wto fkt hto23
   try simp -implicitDefEqProofs (disch := omega) only [zR]
   refine zz (kl.length - (i + 1)) (by omega) ⟨i + 1, lv2, r, rfl, by omega, ?_, fun h => ⟨by have := hseen.1; have : W'.seen.length + k ≥ 4001 := hsk1; omega, hseen.2 h⟩, hW2, hto3, hmt.wto hto23, hto23.free hbt.lt hfb, hbt.calm hto23.calm hfb, hto23.free hkth.lt hfk, hkth.calm hto23.calm hfk, hkt3, fkt3, Jv rkt hto23, by simp only [zf, hn], by simp only [za, ↓reduceIte, Nat.reduceEqDiff, h0], by simp only [za, ↓reduceIte, Nat.reduceEqDiff, h9], by simp only [za, ↓reduceIte, Nat.reduceEqDiff, h11], by simp only [za, ↓reduceIte]; rfl⟩
   rw [e]
   by_cases h : r.2 = 0
   ·rw [if_neg (fun q => q h), if_pos h]
   ·rw [if_pos h, if_neg h]
  clear hn h0 h1 h6 h8 h9 h11 f
  rintro z f t ⟨hn, hz, lv', q1, q2⟩
  rcases hz with rfl | rfl
  ·simp -implicitDefEqProofs (disch := omega) only [allW, zh, ↓reduceIte, allW, zP, zh, ↓reduceIte, Try.results34]
   exact ⟨lv', q1, q2⟩
  ·simp -implicitDefEqProofs (disch := omega) only [allW, zh, allW, zj, zh, Try.results34]
   exact ⟨lv', q1, q2⟩
 refine (kI _ sd c7 _ otyd wP).mono ?_
 rintro _ b4 ⟨rfl, kb4⟩
 have nb4 := kb4.next
 cases hp : isN (getO o yA) wP
 rotate_left
 ·simp -implicitDefEqProofs (disch := omega) only [allW, allR, Nat.reduceLT, Nat.reduceEqDiff, ↓reduceIte, undef, hn]
  exact go _ _ (by simp only [zf, hn]) (by simp only [za, ↓reduceIte, Nat.reduceEqDiff, h0]) (by simp only [za, ↓reduceIte, Nat.reduceEqDiff, h1]) (by simp only [za, ↓reduceIte, Nat.reduceEqDiff, h5]) (by simp only [za, ↓reduceIte, Nat.reduceEqDiff, h6]) (by simp only [za, ↓reduceIte, Nat.reduceEqDiff, h8]) (by simp only [za, ↓reduceIte, Nat.reduceEqDiff, h9]) kb4 (.inl hp)
 simp -implicitDefEqProofs (disch := omega) only [allW, allR, zc, Nat.reduceLT, Nat.reduceEqDiff, ↓reduceIte, hn, h8, zd.loadO (ht9d.keeps kb4) hl7]
 refine (kI _ b4 c7 _ (otyd.keeps kb4) zS).mono ?_
 rintro _ b5 ⟨rfl, kb5⟩
 have kd5 : Stay sd.next sd b5 := kb4.trans (kb5.weaken nb4)
 have hW5 := hWd.keeps kd5
 have hs5 : WTo w m lv lv s b5 := hsd.trans (WTo.ofStay kd5)
 have lkk5 : zg Try.prog b5 3 (.pointer (some ⟨s9.next + 1, 0, some 6⟩)) = some (.int .i64 KO.kind) := by
  rw [(htd.keeps kd5).load (P := Try.prog) zT (off := 0) (c := 6) (by rw [hlb]) (by omega), okd.kindC.1]
 rw [hp] at go
 cases hq : isN (getO o yA) zS
 ·subst hKK
  rw [hp, if_neg (show ¬ (false = true) by decide), hq, if_pos (.inl rfl)]
  simp -implicitDefEqProofs (disch := omega) only [allW, allR, Nat.reduceLT, Nat.reduceEqDiff, ↓reduceIte, undef, hn, h0, rm3]
  refine yF yP hW5.thing (off := 11) (c := 13) (by rw [yo htl]) (by rw [yo htl]; decide) (v := .int .i64 4) rfl ?_
  intro u6 hu6 nu6 eu6
  simp -implicitDefEqProofs (disch := omega) only [allW]
  exact bad b5 W3 4 _ u6 hW5 hs5 (by simp only [zf, hn]) hu6 nu6 eu6
 by_cases c6 : KO.kind = 6
 ·simp -implicitDefEqProofs (disch := omega) only [allW, allR, Nat.reduceLT, Nat.reduceEqDiff, ↓reduceIte, hn, h9, of0, lkk5, c6, not_true]
  exact go _ _ (by simp only [zf, hn]) (by simp only [za, ↓reduceIte, Nat.reduceEqDiff, h0]) (by simp only [za, ↓reduceIte, Nat.reduceEqDiff, h1]) (by simp only [za, ↓reduceIte, Nat.reduceEqDiff, h5]) (by simp only [za, ↓reduceIte, Nat.reduceEqDiff, h6]) (by simp only [za, ↓reduceIte, Nat.reduceEqDiff, h8]) (by simp only [za, ↓reduceIte, Nat.reduceEqDiff, h9]) kd5 (.inr ⟨hq, c6⟩)
 subst hKK
 rw [hp, if_neg (show ¬ (false = true) by decide), if_pos (.inr c6)]
 simp -implicitDefEqProofs (disch := omega) only [allW, allR, Nat.reduceLT, Nat.reduceEqDiff, ↓reduceIte, hn, h0, h9, of0, lkk5, eq_true c6, rm3]
 refine yF yP hW5.thing (off := 11) (c := 13) (by rw [yo htl]) (by rw [yo htl]; decide) (v := .int .i64 4) rfl ?_
 intro u6 hu6 nu6 eu6
 simp -implicitDefEqProofs (disch := omega) only [allW]
 exact bad b5 W3 4 _ u6 hW5 hs5 (by simp only [zf, hn]) hu6 nu6 eu6
end Go.Proofs.Ytokfoagohblkoaa
set_option linter.unusedSimpArgs false
set_option linter.unusedVariables false
set_option maxRecDepth 100000
namespace Go.Proofs.Ytokfoagohblkoaa
open Go.Cl Go.Lib
theorem bRw {D : Dc} {mv iv : Value} {tc : List Value} (hl : tc.length = 5) (a : Nat) : yE Try.prog 88 [(0, .agg (docC D mv tc iv).toArray), (1, .map (some a))] = some (.agg (rwC D mv tc iv a 0 (.slice none 0 0)).toArray) := by
 obtain ⟨a, b, c, d, e, rfl⟩ := five hl
 kernel_rfl
set_option maxHeartbeats 8000000 in
theorem aax (F : Nat -> Prop) (s : ASt) (D : Dc) (mv : Value) (tc : List Value) (iv : Value) (ic : List Value) (hD : ye F s mv tc iv ic D) (hs : yN D) :
  Runs Try.prog libN 15 [.agg (docC D mv tc iv).toArray] s (AllR s (qj D.items D.trailer)) := by
 have htl := hD.trailer.len
 have dl := xh (D := D) (mv := mv) (iv := iv) htl
 have hd6 : zG.length + 1 = 6 := rfl
 refine Runs.enter 44 Try.func15 rfl rfl rfl rfl ?_
 intro f hn hf
 have h0 : f.get 0 = .agg (docC D mv tc iv).toArray := hf 0
 clear hf
 simp -implicitDefEqProofs (disch := omega) only [allW, Nat.reduceLT, ↓reduceIte, hn, h0]
 refine ze ?_
 intro s1 ht1 hst1 hnx1
 have ht1 : zd s1 s.next (docC D mv tc iv) := ht1
 have n1 := hst1.next
 have hD1 := hD.lows.keeps hst1
 simp -implicitDefEqProofs (disch := omega) only [allW, Nat.reduceLT, Nat.reduceAdd, ↓reduceIte, hn, dl]
 obtain ⟨B, hB⟩ : ∃ B : Nat -> Bool, B = fun j => decide (j < s1.next) := ⟨_, rfl⟩
 have hBl : ∀ j, B j = true -> j < s1.next := by
  intro j h
  rw [hB] at h
  exact of_decide_eq_true h
 have hBo : ∀ j, j < s1.next -> B j = true := fun j h => by rw [hB]; exact decide_eq_true h
 refine LB.Drawn.looseK B hBl 1 1 (by kernel_rfl) (by kernel_rfl) ?_
 have hsq := Stay.spare s1 1
 have hnq : (spare s1 1).next = s1.next + 1 := zH _ _
 have ml1 : ∀ k, LA.lowV B (some (.pointer (some ⟨s.next, k, some 10⟩))) = true := fun k => LA.lowV_ptr (A := B) (i := s.next) (hBo _ ht1.lt)
 simp -implicitDefEqProofs (disch := omega) only [allW, allR, allL, allB, Nat.sub_self, Nat.reduceSub, zc, Nat.reduceLT, Nat.reduceEqDiff, ↓reduceIte, hn, df3, xC (ht1.keeps hsq) htl, ji (ht1.keeps hsq) htl, ml1, hD1.self, hD1.trailer.self]
 refine (wX _ (spare s1 1) tc D.trailer (hD1.trailer.keeps hsq) hs.trailer wI).mono ?_
 rintro _ s2 ⟨c2, rfl, ho2, k2⟩
 have n2 := k2.next
 refine ⟨fun _ => LA.Stay.toA hBl (k2.weaken (by omega)), ?_⟩
 have k12 : Stay s1.next s1 s2 := hsq.trans (k2.weaken (by omega))
 try simp -implicitDefEqProofs (disch := omega) only [allW, allR, allL, allB, Nat.sub_self, Nat.add_one_sub_one, Nat.reduceSub, zh, zc, zn, optA, Nat.reduceLT, Nat.reduceLeDiff, Nat.reduceEqDiff, Nat.reduceAdd, ↓reduceIte, hn, h0, ho2.self]
 refine (Qd (fun j => (F j ∧ j < s.next) ∨ s1.next + 1 ≤ j) s2 D mv tc iv ic ((hD1.keeps k12).mono fun j h => .inl h) hs c2 _ (ho2.mono fun j (h : _ ≤ j) => .inr (by omega)) (yv _ wI hs.trailer) (.slice none 0 0) [] .nil (by decide)).mono ?_
 rintro _ s3 ⟨c3, rfl, ho3, k3⟩
 have n3 := k3.next
 have hl3 := ho3.len
 have ho3 : OIs (fun j => (F j ∧ j < s.next) ∨ s1.next + 1 ≤ j) s3 c3 (resD D.items (getO D.trailer wI)) := ho3.mono fun j h => h.elim (fun h => h) (fun (h : _ ≤ j) => .inr (by omega))
 refine ⟨fun h => h.elim, ?_⟩
 have k13 : Stay s1.next s1 s3 := k12.trans (k3.weaken (by omega))
 simp -implicitDefEqProofs (disch := omega) only [allW, ↓reduceIte, zO, plO]
 refine LB.smake_newPtr (by omega) ?_
 intro s4 ht4 nt4 et4
 simp -implicitDefEqProofs (disch := omega) only [allW, allB, Nat.reduceLT, Nat.reduceEqDiff, ↓reduceIte, hn, hd6]
 refine LB.sstep_storeAll szO (by decide) ht4 rfl rfl (by simpa using hl3) ho3.ok (fun h => absurd rfl h) ?_
 intro s5 ht5 nt5 et5
 have ht5 : zd s5 s1.next c3 := ht5
 have k15 : Stay s1.next s1 s5 := k13.trans ⟨by omega, fun j hj => by rw [et5 j (by omega), et4 j (by omega)]⟩
 have ho5 : OIs (fun j => (F j ∧ j < s.next) ∨ s1.next + 1 ≤ j) s5 c3 (resD D.items (getO D.trailer wI)) := (ho3.ofPut nt4 et4 (fun h => by rcases h with h | h <;> omega)).ofPut nt5 et5 (fun h => by rcases h with h | h <;> omega)
 have n15 := k15.next
 have ht15 := ht1.keeps k15
 have hD5 := hD1.keeps k15
 obtain ⟨R, hR⟩ : ∃ R, R = resD D.items (getO D.trailer wI) := ⟨_, rfl⟩
 have hsR : zu R := by rw [hR]; exact xG hs.items (yv _ _ hs.trailer)
 have epd : qj D.items D.trailer = if R.kind ≠ 7 ∨ (getO R zS).kind ≠ 9 then ([], 8) else if (yl D.items 4001 (getO R zS).num (.mk 7 0 [] [] []) ⟨[], []⟩).2 ≠ 0 then ([], (yl D.items 4001 (getO R zS).num (.mk 7 0 [] [] []) ⟨[], []⟩).2) else ((yl D.items 4001 (getO R zS).num (.mk 7 0 [] [] []) ⟨[], []⟩).1.pages, 0) := by rw [hR]; rfl
 rw [← hR] at ho5
 rw [epd]
 simp -implicitDefEqProofs (disch := omega) only [allW, allR, allB, Nat.reduceSub, zc, Nat.reduceLT, ↓reduceIte, allW, allR, zc, Nat.reduceLT, ↓reduceIte, hn, zd.loadO ht5 hl3]
 refine (wX _ s5 c3 R ho5 hsR zS).mono ?_
 rintro _ s6 ⟨c6, rfl, ho6, k6⟩
 have n6 := k6.next
 have hl6 := ho6.len
 simp -implicitDefEqProofs (disch := omega) only [allW, Nat.reduceLT, ↓reduceIte, hn, zO, plO]
 refine ze ?_
 intro s7 ht7 hst7 hnx7
 simp -implicitDefEqProofs (disch := omega) only [allW, Nat.reduceLT, Nat.reduceEqDiff, ↓reduceIte, hn, hd6]
 refine zi szO (by decide) ht7 rfl rfl hl6 ho6.ok ?_
 intro s8 ht8 nt8 et8
 have ht8 : zd s8 s6.next c6 := ht8
 have k58 : Stay s5.next s5 s8 := (k6.trans (hst7.weaken n6)).trans ⟨by omega, fun j hj => et8 j (by omega)⟩
 have n58 := k58.next
 have ht58 := ht5.keeps k58
 have ho58 := ho5.keeps k58
 have ho8 : OIs (fun j => s5.next ≤ j ∧ j < s6.next) s8 c6 (getO R zS) := (ho6.lows.keeps hst7).ofPut nt8 et8 (by omega)
 have k18 : Stay s1.next s1 s8 := k15.trans (k58.weaken n15)
 have ks8 : Stay s.next s s8 := hst1.trans (k18.weaken n1)
 have lk1 : zg Try.prog s8 3 (.pointer (some ⟨s1.next, 0, some 6⟩)) = some (.int .i64 R.kind) := by
  rw [ht58.load (P := Try.prog) zT (off := 0) (c := 6) (by rw [hl3]) (by omega), ho58.kindC.1]
 have lk2 : zg Try.prog s8 3 (.pointer (some ⟨s6.next, 0, some 6⟩)) = some (.int .i64 (getO R zS).kind) := by
  rw [ht8.load (P := Try.prog) zT (off := 0) (c := 6) (by rw [hl6]) (by omega), ho8.kindC.1]
 by_cases c1 : R.kind = 7
 rotate_left
 ·rw [if_pos (.inl c1)]
  simp -implicitDefEqProofs (disch := omega) only [allW, allR, zj, zh, Nat.reduceLT, Nat.reduceEqDiff, ↓reduceIte, undef, hn, of0, lk1, eq_true c1, Try.results15]
  exact ⟨_, [], rfl, .nil, zt.nil, (fun p hp => by cases hp), by simp, ks8⟩
 by_cases c2 : (getO R zS).kind = 9
 rotate_left
 ·rw [if_pos (.inr c2)]
  simp -implicitDefEqProofs (disch := omega) only [allW, allR, zj, zh, Nat.reduceLT, Nat.reduceEqDiff, ↓reduceIte, undef, hn, of0, lk1, lk2, c1, not_true, eq_true c2, Try.results15]
  exact ⟨_, [], rfl, .nil, zt.nil, (fun p hp => by cases hp), by simp, ks8⟩
 rw [if_neg (fun h => h.elim (fun h => h c1) (fun h => h c2))]
 have ht18 := ht1.keeps k18
 obtain ⟨s9, e9, hM9, k9, nx9⟩ := UN s8
 simp -implicitDefEqProofs (disch := omega) only [allW, allR, zn, Nat.reduceLT, Nat.reduceEqDiff, ↓reduceIte, undef, hn, of0, lk1, lk2, c1, c2, not_true, xC ht18 htl, e9, bRw htl]
 refine ze ?_
 intro sa hta ka nxa
 have hta : zd sa s9.next (rwC D mv tc iv s8.next 0 (.slice none 0 0)) := hta
 have n9 := k9.next
 have na := ka.next
 have k8a : Stay s8.next s8 sa := k9.trans (ka.weaken n9)
 have ksa : Stay s.next s sa := ks8.trans (k8a.weaken (by have := ks8.next; omega))
 have hWa : PwIs (rwC D mv tc iv s8.next 0) (.int .i64 1) sa s9.next D mv tc iv ic s8.next (.slice none 0 0) ⟨[], []⟩ :=
  PwIs.start (hD.lows.keeps ksa) hta (hM9.keeps ka) (fun j hj => by have := hj.2; have := ks8.next; omega) (by omega)
 have ht8a := ht8.keeps k8a
 have hd13 : (rwC D mv tc iv s8.next 0 (.slice none 0 0)).length + 1 = 13 := by rw [yo htl]
 simp -implicitDefEqProofs (disch := omega) only [allW, Nat.reduceLT, ↓reduceIte, hn, hd13]
 obtain ⟨C, hC⟩ : ∃ B : Nat -> Bool, B = fun j => decide (j < sa.next) := ⟨_, rfl⟩
 have hCl : ∀ j, C j = true -> j < sa.next := by
  intro j h
  rw [hC] at h
  exact of_decide_eq_true h
 have hCo : ∀ j, j < sa.next -> C j = true := fun j h => by rw [hC]; exact decide_eq_true h
 refine LB.Drawn.looseK C hCl 1 0 (by kernel_rfl) (by kernel_rfl) ?_
 have hsr := Stay.spare sa 0
 have hnr : (spare sa 0).next = sa.next + 0 := zH _ _
 have ml3 : ∀ k, LA.lowV C (some (.pointer (some ⟨s6.next, k, some 6⟩))) = true := fun k => LA.lowV_ptr (A := C) (i := s6.next) (hCo _ ht8a.lt)
 have ln3 : zg Try.prog (spare sa 0) 2 (.pointer (some ⟨s6.next, 1, some 6⟩)) = some (.int .i64 (getO R zS).num) := by
  rw [(ht8a.keeps hsr).load (P := Try.prog) wH (off := 1) (c := 6) (by rw [hl6]) (by omega), ho8.kindC.2]
 simp -implicitDefEqProofs (disch := omega) only [allW, allR, allL, allB, Nat.sub_self, Nat.reduceSub, zc, Nat.reduceLT, Nat.reduceEqDiff, ↓reduceIte, hn, of1, ln3, ml3]
 refine (qM Xl (fun _ => False) (spare sa 0) (.slice none 0 0) [] [] .nil zt.nil (by simp) (fun e he => by cases he)).mono ?_
 rintro _ sb ⟨cb, rfl, hob, kb⟩
 have nb := kb.next
 refine ⟨fun _ => LA.Stay.toA hCl (kb.weaken (by omega)), ?_⟩
 have kab : Stay sa.next sa sb := hsr.trans (kb.weaken (by omega))
 have hWb := hWa.keeps kab
 have eD : O.mk 7 0 [] [] (yd [] []) = .mk 7 0 [] [] [] := rfl
 rw [eD] at hob
 try simp -implicitDefEqProofs (disch := omega) only [allW, allR, allL, allB, Nat.sub_self, Nat.add_one_sub_one, Nat.reduceSub, zh, zc, zn, optA, Nat.reduceLT, Nat.reduceLeDiff, Nat.reduceEqDiff, Nat.reduceAdd, ↓reduceIte, hn, h0, hob.self]
 refine (SH s9.next D mv tc iv ic s8.next hs 4001 sb (.slice none 0 0) ⟨[], []⟩ (getO R zS).num cb (.mk 7 0 [] [] []) (by simp) (by simp) (by simp [O.ents]) (zu.bare 7 0) (hob.mono fun j (hj : _ ≤ j) => hWa.free (by omega)) hWb).mono ?_
 rintro _ sc ⟨lv, hWc, htc⟩
 refine ⟨fun h => h.elim, ?_⟩
 obtain ⟨r, hr⟩ : ∃ r, r = yl D.items 4001 (getO R zS).num (.mk 7 0 [] [] []) ⟨[], []⟩ := ⟨_, rfl⟩
 have hpl : r.1.pages.length ≤ 1000 := by rw [hr]; exact kJ _ _ _ _ _ (by simp)
 rw [← hr] at hWc ⊢
 have ksb : Stay s.next s sb := ksa.trans (kab.weaken (by have := ksa.next; omega))
 have ksc : Stay s.next s sc := ksb.trans ⟨htc.next, fun j hj => htc.calm.get j (by have := ksb.next; omega) ⟨by have := ks8.next; omega, by have := ks8.next; omega, fun e => by cases e⟩⟩
 by_cases c0 : r.2 = 0
 rotate_left
 ·have d2 : ¬ ((r.2 : Nat) : Int) = 0 := by omega
  rw [if_pos c0]
  simp -implicitDefEqProofs (disch := omega) only [allW, zh, Nat.reduceLT, Nat.reduceEqDiff, ↓reduceIte, allW, zh, Nat.reduceLT, Nat.reduceEqDiff, ↓reduceIte, allW, zj, zh, Nat.reduceLT, Nat.reduceEqDiff, ↓reduceIte, hn, rm3, jQ hWc.thing htl, eq_true d2, Try.results15]
  exact ⟨_, [], rfl, .nil, zt.nil, (fun p hp => by cases hp), by simp, ksc⟩
 have d2 : ((r.2 : Nat) : Int) = 0 := by omega
 rw [if_neg (show ¬ (r.2 ≠ 0) from fun h => h c0)]
 obtain ⟨lc, hO, hRw⟩ := hWc.pages
 simp -implicitDefEqProofs (disch := omega) only [allW, allR, zh, Nat.reduceLT, Nat.reduceEqDiff, ↓reduceIte, allW, allR, zh, Nat.reduceLT, Nat.reduceEqDiff, ↓reduceIte, allW, allR, zj, zh, Nat.reduceLT, Nat.reduceEqDiff, ↓reduceIte, hn, rm2, rm3, jQ hWc.thing htl, d2, not_true, vS hWc.thing htl, Try.results15]
 exact ⟨lv, lc, rfl, hO.sees, hRw.mono wW (fun _ _ => trivial), hWc.small, Nat.le_trans hpl (by decide), ksc⟩
end Go.Proofs.Ytokfoagohblkoaa
