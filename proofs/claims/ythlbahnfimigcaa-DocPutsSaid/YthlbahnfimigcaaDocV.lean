import Derived.Test.YthlbahnfimigcaaDocT
import Derived.Test.YthlbahnfimigcaaDocR
import Derived.Test.YthlbahnfimigcaaRplS
set_option linter.unusedSimpArgs false
set_option linter.unusedVariables false
set_option maxRecDepth 100000
namespace Go.Cl
def geI (D : List (Int × O)) (n : Int) (i : Nat) : Bool := match D[i]? with
 | some y => decide (n ≤ y.1)
 | none => false
theorem geI_at {D : List (Int × O)} {n : Int} {i : Nat} (h : i < D.length) : geI D n i = decide (n ≤ D[i].1) := by
 unfold geI; rw [List.getElem?_eq_getElem h]
theorem ORows.allOk {F : Nat -> Prop} {s : ASt} {D : List (Int × O)} {lc : List Value} (h : ORows ItIs 6 F s D lc) : lc.all okCell = true := by
 rw [List.all_eq_true]
 intro x hx
 obtain ⟨i, hi, rfl⟩ := List.mem_iff_getElem.1 hx
 have hl := h.len
 have h1 := (h.row (i / 6) (by omega)).ok
 rw [List.all_eq_true] at h1
 exact h1 _ (List.mem_iff_getElem?.2 ⟨i % 6, by rw [List.getElem?_take_of_lt (by omega), List.getElem?_drop, show i / 6 * 6 + i % 6 = i by omega, List.getElem?_eq_getElem hi]⟩)
theorem Own.at {s : ASt} {z n m : Nat} {v : Value} {l : List Value} (h : Own s z v n l) (e : n = m) : Own s z v m l := e ▸ h
theorem ORows.ins {F : Nat -> Prop} {s : ASt} {D : List (Int × O)} {lc es : List Value} {e : Int × O} (h : ORows ItIs 6 F s D lc) (he : es.length = 6) (hi : ItIs F s es e) {k q : Nat} (hk : k ≤ D.length) (hq : q ≤ D.length) : ORows ItIs 6 F s (D.take k ++ (e :: D.drop q)) (lc.take (k * 6) ++ (es ++ lc.drop (q * 6))) :=
 (h.take k hk).append ((ORows.snoc ORows.nil he hi).append (h.drop q hq))
end Go.Cl
namespace Go.Proofs.Ythlbahnfimigcaa
open Go.Cl Go.Lib
theorem cloP {lib : Prims} (hl : lib.at 56 = none) (F : Nat -> Prop) (s : ASt) (cs : List Value) (e : Int × O) (he : ItIs F s cs e) (j : Nat) (n : Int) (hj : Thing s j [.int .i64 n]) :
  Runs Try.prog lib 56 [.agg cs.toArray, .pointer (some ⟨j, 0, some 2⟩)] s (BoolsI s (decide (n ≤ e.1))) := by
 have hcl := he.len
 obtain ⟨r, rfl, hr⟩ := he
 refine Runs.enter 8 Try.func56 rfl hl rfl rfl ?_
 intro f hn hf
 have h0 : f.get 0 = .agg (.int .i64 e.1 :: r).toArray := hf 0
 have h1 : f.get 1 = .pointer (some ⟨j, 0, some 2⟩) := hf 1
 clear hf
 simp -implicitDefEqProofs (disch := omega) only [allW, allR, oneOf, evalAll, partsA, optA, Nat.reduceLT, Nat.reduceLeDiff, Nat.reduceEqDiff, Nat.reduceAdd, ↓reduceIte, hn, h0, h1]
 refine wstep_newPtr ?_
 intro s1 ht1 hst1 hnx1
 have hj1 := hj.keeps hst1
 have q1 := hr.len
 have l1 : loadA Try.prog s1 3 (.pointer (some ⟨s.next, 0, some 7⟩)) = some (.int .i64 e.1) := ht1.load agInt (off := 0) (c := 7) (by simp [q1]) (by simp)
 have l2 : loadA Try.prog s1 3 (.pointer (some ⟨j, 0, some 2⟩)) = some (.int .i64 n) := hj1.load agInt (off := 0) (c := 2) rfl (by simp)
 simp -implicitDefEqProofs (disch := omega) only [allW, allR, wfn_ret, wfn_normal, oneOf, evalAll, partsA, optA, Nat.reduceLT, Nat.reduceLeDiff, Nat.reduceEqDiff, Nat.reduceAdd, ↓reduceIte, hn, h0, h1, hcl, List.length_cons, q1, if0, l1, l2, Try.results56]
 exact ⟨rfl, hst1⟩
set_option maxHeartbeats 16000000 in
theorem put_any {lib : Prims} (hl : lib.at 34 = none) (hp : lib.at 57 = some (pRepl Try.prog 27 6)) (hli : lib.at 39 = none) (hlc : lib.at 56 = none) (hcp : lib.at 41 = none) (hlb : lib.at 42 = none)
  (F : Nat -> Prop) (s : ASt) (D : Dc) (mv : Value) (tc : List Value) (iv : Value) (ic : List Value) (hD : DocIs F s mv tc iv ic D) (hs : SmallP D) (n : Int) (cs : List Value) (o : O) (ho : OIs F s cs o) (hso : Small o) :
  Runs Try.prog lib 34 [.agg (docC D mv tc iv).toArray, .int .i64 n, .agg cs.toArray] s (NewD s (setD n o D)) := by
 have htl := hD.trailer.len
 have hcl := ho.len
 have dl := db_len (D := D) (mv := mv) (iv := iv) htl
 have hmk := hs.mark
 have hlen := hs.len
 refine Runs.enter 88 Try.func34 rfl hl rfl rfl ?_
 intro f hn hf
 have h0 : f.get 0 = .agg (docC D mv tc iv).toArray := hf 0
 have h1 : f.get 1 = .int .i64 n := hf 1
 have h2 : f.get 2 = .agg cs.toArray := hf 2
 clear hf
 simp -implicitDefEqProofs (disch := omega) only [allW, allR, oneOf, evalAll, partsA, optA, Nat.reduceLT, Nat.reduceLeDiff, Nat.reduceEqDiff, Nat.reduceAdd, ↓reduceIte, hn, h0, h1, h2]
 refine wstep_newPtr ?_
 intro s1 ht1 hst1 hnx1
 have ht1 : Thing s1 s.next (docC D mv tc iv) := ht1
 simp -implicitDefEqProofs (disch := omega) only [allW, allR, oneOf, evalAll, partsA, optA, Nat.reduceLT, Nat.reduceLeDiff, Nat.reduceEqDiff, Nat.reduceAdd, ↓reduceIte, hn, h0, h1, h2, dl]
 refine wstep_newPtr ?_
 intro s2 ht2 hst2 hnx2
 have ht2 : Thing s2 s1.next [.int .i64 n] := ht2
 simp -implicitDefEqProofs (disch := omega) only [allW, allR, oneOf, evalAll, partsA, optA, Nat.reduceLT, Nat.reduceLeDiff, Nat.reduceEqDiff, Nat.reduceAdd, ↓reduceIte, hn, h0, h1, h2]
 refine wstep_newPtr ?_
 intro s3 ht3 hst3 hnx3
 have ht3 : Thing s3 s2.next cs := ht3
 simp -implicitDefEqProofs (disch := omega) only [allW, allR, oneOf, evalAll, partsA, optA, Nat.reduceLT, Nat.reduceLeDiff, Nat.reduceEqDiff, Nat.reduceAdd, ↓reduceIte, hn, h0, h1, h2, hcl, zD, plD]
 refine wstep_newPtr ?_
 intro s4 ht4 hst4 hnx4
 have ht4 : Thing s4 s3.next noneD := ht4
 have n1 := hst1.next
 have n2 := hst2.next
 have n3 := hst3.next
 have n4 := hst4.next
 have k24 : Stay s2.next s2 s4 := hst3.trans (hst4.weaken n3)
 have k14 : Stay s1.next s1 s4 := hst2.trans (k24.weaken n2)
 have k04 : Stay s.next s s4 := hst1.trans (k14.weaken n1)
 have ht14 := ht1.keeps k14
 have ht24 := ht2.keeps k24
 have ht34 := ht3.keeps hst4
 have hD4 := hD.lows.keeps k04
 have ho4 := ho.lows.keeps k04
 have hd10 : noneD.length + 1 = 10 := rfl
 have hd2 : (Value.int IntKind.i64 n).cells.toList.length + 1 = 2 := rfl
 simp -implicitDefEqProofs (disch := omega) only [allW, allR, oneOf, evalAll, partsA, optA, Nat.reduceLT, Nat.reduceLeDiff, Nat.reduceEqDiff, Nat.reduceAdd, ↓reduceIte, hn, h0, h1, h2, hd10, hd2]
 obtain ⟨A, hAe⟩ : ∃ A : Nat -> Bool, A = fun j => decide (j < s4.next) := ⟨_, rfl⟩
 have hAl : ∀ j, A j = true -> j < s4.next := by
  intro j h
  rw [hAe] at h
  exact of_decide_eq_true h
 have hAo : ∀ j, j < s4.next -> A j = true := fun j h => by rw [hAe]; exact decide_eq_true h
 refine LB.Drawn.looseK A hAl 2 1 (by kernel_rfl) (by kernel_rfl) ?_
 have hsp := Stay.spare s4 1
 have hnT : (spare s4 1).next = s4.next + 1 := spare_next _ _
 have htq := ht14.keeps hsp
 have hDq := hD4.keeps hsp
 have hlow : ∀ k, LA.lowV A (some (.pointer (some ⟨s.next, k, some 10⟩))) = true := fun k => LA.lowV_ptr (A := A) (i := s.next) (hAo _ ht14.lt)
 simp -implicitDefEqProofs (disch := omega) only [allW, allR, allL, allB, Nat.sub_self, Nat.add_one_sub_one, Nat.reduceSub, oneOf, evalAll, partsA, optA, Nat.reduceLT, Nat.reduceLeDiff, Nat.reduceEqDiff, Nat.reduceAdd, ↓reduceIte, hn, h0, h1, h2, df0, df1, df2, df3, hlow, db_minor htq htl, db_mark htq htl, hDq.mark.self, valEq_int]
 refine (clone_any hlb (spare s4 1) mv D.mark hDq.mark (by omega)).mono ?_
 rintro mv' s5 ⟨hmo, hmF, hst5⟩
 have n5 := hst5.next
 have htq5 := htq.keeps hst5
 have hDq5 := hDq.keeps hst5
 refine ⟨fun _ => LA.Stay.toA hAl (hst5.weaken (by omega)), ?_⟩
 have k45 : Stay s4.next s4 s5 := hsp.trans (hst5.weaken (by omega))
 simp -implicitDefEqProofs (disch := omega) only [allW, allR, allL, allB, Nat.sub_self, Nat.add_one_sub_one, Nat.reduceSub, oneOf, evalAll, partsA, optA, Nat.reduceLT, Nat.reduceLeDiff, Nat.reduceEqDiff, Nat.reduceAdd, ↓reduceIte, hn, h0, h1, h2, df0, df1, df2, df3, hlow, db_tail htq5 htl, db_trailer htq5 htl, hDq5.trailer.self, hmo.sees.self, valEq_int]
 refine (copyO hcp hlb _ D.trailer (Nat.le_refl _) _ s5 tc hDq5.trailer hs.trailer).mono ?_
 rintro v6 s6 h6
 obtain ⟨tc', rfl, ho6, hst6⟩ := h6.is
 have n6 := hst6.next
 have htl' := ho6.len
 refine ⟨fun _ => LA.Stay.toA hAl (hst6.weaken (by omega)), ?_⟩
 obtain ⟨ma, ml, mb, rfl⟩ := hmo.slice
 have hm6 := hmo.keeps hst6
 have hD6 : DocIs (fun _ => True) s6 (.slice ma ml mb) tc' (.slice none 0 0) [] ⟨D.minor, D.mark, D.tail, D.trailer, []⟩ := ⟨hm6.sees, Foot.of_id (fun _ _ => trivial), ho6.mono (fun _ _ => trivial), .nil, Foot.of_id (fun _ _ => trivial), ORows.nil⟩
 have hself6 := hD6.self
 have hl6 := docC_len hD6
 have hk6 := docC_ok hD6
 have hself6 : valEq (.agg (docC D (.slice ma ml mb) tc' (.slice none 0 0)).toArray) (.agg (docC D (.slice ma ml mb) tc' (.slice none 0 0)).toArray) = true := hself6
 have hl6 : (docC D (.slice ma ml mb) tc' (.slice none 0 0)).length = 9 := hl6
 have hk6 : (docC D (.slice ma ml mb) tc' (.slice none 0 0)).all okCell = true := hk6
 have hbd : buildA Try.prog 29 [(0, .int .i64 D.minor), (1, .slice ma ml mb), (2, .int .i64 D.tail), (3, .agg tc'.toArray)] = some (.agg (docC D (.slice ma ml mb) tc' (.slice none 0 0)).toArray) := bDoc4 D.minor D.tail ma ml mb htl'
 obtain ⟨mv', hmv⟩ : ∃ mv' : Value, mv' = .slice ma ml mb := ⟨_, rfl⟩
 simp -implicitDefEqProofs (disch := omega) only [allW, allR, allL, allB, Nat.sub_self, Nat.add_one_sub_one, Nat.reduceSub, oneOf, evalAll, partsA, optA, Nat.reduceLT, Nat.reduceLeDiff, Nat.reduceEqDiff, Nat.reduceAdd, ↓reduceIte, hn, h0, h1, h2, ho6.self, hbd, hself6, zD, plD]
 clear hbd
 rw [← hmv] at hself6 hl6 hk6 hm6 hD6 hmF hmo ⊢
 refine LB.smake_newPtr (by omega) ?_
 intro s7 ht7 hnx7 hot7
 simp -implicitDefEqProofs (disch := omega) only [allW, allR, allL, allB, Nat.sub_self, Nat.add_one_sub_one, Nat.reduceSub, oneOf, evalAll, partsA, optA, Nat.reduceLT, Nat.reduceLeDiff, Nat.reduceEqDiff, Nat.reduceAdd, ↓reduceIte, hn, h0, h1, h2, hd10]
 refine LB.sstep_storeAll szD (by decide) ht7 rfl rfl (by simpa using hl6) hk6 (fun h => absurd rfl h) ?_
 intro s8 ht8 hnx8 hot8
 have ht8 : Thing s8 s4.next (docC D mv' tc' (.slice none 0 0)) := ht8
 have k48 : Stay s4.next s4 s8 := ((k45.trans (hst6.weaken (by omega))).trans ⟨by omega, fun j hj => hot7 j (by omega)⟩).trans ⟨by omega, fun j hj => hot8 j (by omega)⟩
 have m8 := k48.next
 have hm8 : Own s8 1 mv' D.mark.length (ofBytes D.mark) := (hm6.ofPut hnx7 hot7 (fun e => by have := hmF _ e; omega)).ofPut hnx8 hot8 (fun e => by have := hmF _ e; omega)
 have ho8 : OIs (fun j => s4.next + 1 ≤ j ∧ j < s8.next) s8 tc' D.trailer := by
  have := ((ho6.ofPut hnx7 hot7 (by omega)).ofPut hnx8 hot8 (by omega)).lows
  exact this.mono (fun j hj => ⟨by have := hj.1; omega, hj.2⟩)
 have hmi : ∀ j, idOf mv' = some j -> s4.next + 1 ≤ j ∧ j < s8.next := fun j hj => ⟨by have := hmF j hj; omega, hm8.idlt j hj⟩
 have hD8 := hD4.keeps k48
 have hO8 := ho4.keeps k48
 have hb18 := ht14.keeps k48
 have hb28 := ht24.keeps k48
 have hb38 := ht34.keeps k48
 have hb48 := ht4.keeps k48
 have hln := hD8.items.lenA (P := Try.prog) Try.underlying27 (s2 := s8)
 simp -implicitDefEqProofs (disch := omega) only [allW, allR, allL, allB, Nat.sub_self, Nat.add_one_sub_one, Nat.reduceSub, oneOf, evalAll, partsA, optA, Nat.reduceLT, Nat.reduceLeDiff, Nat.reduceEqDiff, Nat.reduceAdd, ↓reduceIte, allW, allR, oneOf, evalAll, partsA, optA, Nat.reduceLT, Nat.reduceLeDiff, Nat.reduceEqDiff, Nat.reduceAdd, ↓reduceIte, hn, h0, h1, h2, df4, db_items hb18 htl, hln]
 have hp8 : s4.next < s8.next := ht8.lt
 obtain ⟨FF, hFF⟩ : ∃ FF : Value -> Nat -> Prop, FF = fun v j => s8.next ≤ j ∧ ¬ (fun _ => False) j ∧ idOf v ≠ some j := ⟨_, rfl⟩
 refine Comes.loopOut (fun z f t => ∃ (i : Nat) (y : Value) (IC : List Value), z = D.items.length - i ∧ i ≤ D.items.length ∧ Own t 6 y i IC ∧ ORows ItIs 6 (FF y) t (D.items.take i) IC ∧ Fresh s8.next y ∧ (i = 0 -> y = .slice none 0 0) ∧ Thing t s4.next (docC D mv' tc' y) ∧ Turns (.pointer (some ⟨s4.next, 0, none⟩)) s8 t ∧ f.n = 88 ∧ f.get 4 = .pointer (some ⟨s1.next, 0, some 2⟩) ∧ f.get 5 = .pointer (some ⟨s2.next, 0, some 6⟩) ∧ f.get 6 = .pointer (some ⟨s3.next, 0, some 10⟩) ∧ f.get 7 = .pointer (some ⟨s4.next, 0, some 10⟩) ∧ f.get 24 = iv ∧ f.get 25 = .int .i64 (D.items.length : Nat) ∧ f.get 26 = .int .i64 (i : Nat))
  (fun z f t => z = .exit 0 ∧ ∃ (y : Value) (IC : List Value), Own t 6 y D.items.length IC ∧ ORows ItIs 6 (FF y) t D.items IC ∧ Fresh s8.next y ∧ (D.items.length = 0 -> y = .slice none 0 0) ∧ Thing t s4.next (docC D mv' tc' y) ∧ Turns (.pointer (some ⟨s4.next, 0, none⟩)) s8 t ∧ f.n = 88 ∧ f.get 4 = .pointer (some ⟨s1.next, 0, some 2⟩) ∧ f.get 5 = .pointer (some ⟨s2.next, 0, some 6⟩) ∧ f.get 6 = .pointer (some ⟨s3.next, 0, some 10⟩) ∧ f.get 7 = .pointer (some ⟨s4.next, 0, some 10⟩))
  ⟨0, .slice none 0 0, [], rfl, by omega, .nil, by rw [List.take_zero]; exact ORows.nil, Fresh.nil _, fun _ => rfl, ht8, Turns.refl _ _, by simp only [get_put, n_put, ↓reduceIte, Nat.reduceEqDiff, hn], by simp only [get_put, n_put, ↓reduceIte, Nat.reduceEqDiff], by simp only [get_put, n_put, ↓reduceIte, Nat.reduceEqDiff], by simp only [get_put, n_put, ↓reduceIte, Nat.reduceEqDiff], by simp only [get_put, n_put, ↓reduceIte, Nat.reduceEqDiff], by simp only [get_put, n_put, ↓reduceIte, Nat.reduceEqDiff], by simp only [get_put, n_put, ↓reduceIte, Nat.reduceEqDiff], by simp only [get_put, n_put, ↓reduceIte, Nat.reduceEqDiff]; rfl⟩ ?_ ?_
 ·clear hn h0 h1 h2 f ht7 hot7 hm6 hD6 hself6 hl6 hk6 htq hDq htq5 hDq5 hlow hln
  rintro Q hQ z f t ⟨i, y, IC, rfl, hi, hy, hR, hyF, hy0, hb4, htu, hn, h4, h5, h6, h7, h24, h25, h26⟩
  have hnt := htu.next
  have hst : Stay s4.next s8 t := ⟨htu.next, fun j hj => htu.get j (by omega) (fun e => by
   have e : some s4.next = some j := e
   injection e with e; omega)⟩
  have k4t : Stay s4.next s4 t := k48.trans hst
  have hDt := hD4.keeps k4t
  by_cases hlt : i < D.items.length
  rotate_left
  ·obtain rfl : i = D.items.length := by omega
   rw [List.take_of_length_le (Nat.le_refl _)] at hR
   have d1 : ¬ ((D.items.length : Nat) : Int) < ((D.items.length : Nat) : Int) := by omega
   simp -implicitDefEqProofs (disch := omega) only [allW, allR, oneOf, evalAll, partsA, optA, Nat.reduceLT, Nat.reduceLeDiff, Nat.reduceEqDiff, Nat.reduceAdd, ↓reduceIte, hn, h4, h5, h6, h7, h24, h25, h26, eq_false d1]
   exact hQ _ _ _ ⟨rfl, y, IC, hy, hR, hyF, hy0, hb4, htu, by simp only [get_put, n_put, ↓reduceIte, Nat.reduceEqDiff, hn], by simp only [get_put, n_put, ↓reduceIte, Nat.reduceEqDiff, h4], by simp only [get_put, n_put, ↓reduceIte, Nat.reduceEqDiff, h5], by simp only [get_put, n_put, ↓reduceIte, Nat.reduceEqDiff, h6], by simp only [get_put, n_put, ↓reduceIte, Nat.reduceEqDiff, h7]⟩
  have d1 : (i : Int) < (D.items.length : Int) := by omega
  have hIt := hDt.items
  have hix := hIt.indexAddr (P := Try.prog) (k := .i64) (x := (i : Int)) Try.underlying27 szI (by omega) (by omega)
  rw [Int.toNat_natCast] at hix
  have hld := hIt.loadAgg (P := Try.prog) agI szI hlt
  have hrow := hDt.rows.row i hlt
  obtain ⟨xs, hxs⟩ : ∃ xs, xs = (ic.drop (i * 6)).take 6 := ⟨_, rfl⟩
  rw [← hxs] at hld hrow
  simp -implicitDefEqProofs (disch := omega) only [allW, allR, oneOf, evalAll, partsA, optA, Nat.reduceLT, Nat.reduceLeDiff, Nat.reduceEqDiff, Nat.reduceAdd, ↓reduceIte, hn, h4, h5, h6, h7, h24, h25, h26, eq_true d1, hix, hld, zI, plI]
  refine wstep_newPtr ?_
  intro t1 ht1' hst1' hnx1'
  have ht1' : Thing t1 t.next noneI := ht1'
  have p1 := hst1'.next
  have hd7 : noneI.length + 1 = 7 := rfl
  simp -implicitDefEqProofs (disch := omega) only [allW, allR, oneOf, evalAll, partsA, optA, Nat.reduceLT, Nat.reduceLeDiff, Nat.reduceEqDiff, Nat.reduceAdd, ↓reduceIte, hn, h4, h5, h6, h7, h24, h25, h26, hd7]
  refine wstep_storeAll szI (by decide) ht1' rfl rfl hrow.len hrow.ok ?_
  intro t2 ht2' hnx2' hot2'
  have kt2 : Stay t.next t t2 := hst1'.trans ⟨by omega, fun j hj => hot2' j (by omega)⟩
  have p2 := kt2.next
  have hrow2 := rowedI.keeps hrow kt2
  obtain ⟨r, hr, hro⟩ := hrow2
  have hrl := hro.len
  obtain ⟨B, hBe⟩ : ∃ B : Nat -> Bool, B = fun j => decide (j < t2.next) := ⟨_, rfl⟩
  have hBl : ∀ j, B j = true -> j < t2.next := by
   intro j h
   rw [hBe] at h
   exact of_decide_eq_true h
  have hBo : ∀ j, j < t2.next -> B j = true := fun j h => by rw [hBe]; exact decide_eq_true h
  have hb42 := hb4.keeps kt2
  have hy2 := hy.keeps kt2
  have hR2 := hR.keeps rowedI kt2
  simp -implicitDefEqProofs (disch := omega) only [allW, allR, oneOf, evalAll, partsA, optA, Nat.reduceLT, Nat.reduceLeDiff, Nat.reduceEqDiff, Nat.reduceAdd, ↓reduceIte, hn, h4, h5, h6, h7, h24, h25, h26]
  refine LB.Drawn.looseK B hBl 1 1 (by kernel_rfl) (by kernel_rfl) ?_
  have hsq := Stay.spare t2 1
  have hnq : (spare t2 1).next = t2.next + 1 := spare_next _ _
  have hlow7 : ∀ k, LA.lowV B (some (.pointer (some ⟨s4.next, k, some 10⟩))) = true := fun k => LA.lowV_ptr (A := B) (i := s4.next) (hBo _ hb42.lt)
  have hlow9 : ∀ k, LA.lowV B (some (.pointer (some ⟨t.next, k, some 7⟩))) = true := fun k => LA.lowV_ptr (A := B) (i := t.next) (hBo _ ht2'.lt)
  have hbq := hb42.keeps hsq
  have hxq := ht2'.keeps hsq
  have hyq := hy2.keeps hsq
  have hroq := hro.keeps hsq
  have l1 : loadA Try.prog (spare t2 1) 3 (.pointer (some ⟨t.next, 0, some 7⟩)) = some (.int .i64 D.items[i].1) := by
   have := hxq.load agInt (off := 0) (c := 7) (by rw [hrow.len]) (by rw [hrow.len]; omega)
   rw [hr] at this
   exact this
  have l2 : loadA Try.prog (spare t2 1) 26 (.pointer (some ⟨t.next, 1, some 7⟩)) = some (.agg r.toArray) := by
   have := hxq.loadMid (P := Try.prog) agO szO (off := 1) (c := 7) (by rw [hrow.len]) (by rw [hrow.len]; omega)
   rw [hr, List.drop_one, List.tail_cons, List.take_of_length_le (by omega)] at this
   exact this
  simp -implicitDefEqProofs (disch := omega) only [allW, allR, allL, allB, Nat.sub_self, Nat.add_one_sub_one, Nat.reduceSub, oneOf, evalAll, partsA, optA, Nat.reduceLT, Nat.reduceLeDiff, Nat.reduceEqDiff, Nat.reduceAdd, ↓reduceIte, hn, h4, h5, h6, h7, h24, h25, h26, df4, if0, if1, hlow7, hlow9, db_items hbq htl', hyq.self, l1, l2, hroq.self, valEq_int]
  refine (copyO hcp hlb _ D.items[i].2 (Nat.le_refl _) _ (spare t2 1) r hroq (hs.items _ (List.getElem_mem hlt))).mono ?_
  rintro v3 t3 h3
  obtain ⟨es5, rfl, ho3, kst3⟩ := h3.is
  have p3 := kst3.next
  have hel5 := ho3.len
  refine ⟨fun _ => LA.Stay.toA hBl (kst3.weaken (by omega)), ?_⟩
  obtain ⟨es, hes⟩ : ∃ es, es = Value.int .i64 D.items[i].1 :: es5 := ⟨_, rfl⟩
  have hel : es.length = 6 := by rw [hes]; simp [hel5]
  have hesok : es.all okCell = true := by rw [hes, List.all_cons, ho3.ok]; rfl
  have hself6 : valEq (.agg es.toArray) (.agg es.toArray) = true := by rw [hes]; exact item_self _ ho3.self
  have hbI := bItem D.items[i].1 hel5
  rw [← hes] at hbI
  simp -implicitDefEqProofs (disch := omega) only [allW, allR, allL, allB, Nat.sub_self, Nat.add_one_sub_one, Nat.reduceSub, oneOf, evalAll, partsA, optA, Nat.reduceLT, Nat.reduceLeDiff, Nat.reduceEqDiff, Nat.reduceAdd, ↓reduceIte, hn, h4, h5, h6, h7, h24, h25, h26, ho3.self, hbI, hself6, buildAgg1 (cs := es.toArray) Try.underlying27 szI zI plI rfl hel (by decide)]
  refine LB.smake_newSlice (base := t2.next) hel (by omega) (Nat.le_refl _) ?_
  intro bs t4 hbs hid kst4 hnx4' hot4'
  have kt4 : Stay t2.next t2 t4 := (hsq.trans (kst3.weaken (by omega))).trans kst4
  have p4 := kt4.next
  have hi4 : ItIs (FF y) t4 es D.items[i] := by
   refine ⟨es5, hes, ?_⟩
   refine (ho3.turns (u := .pointer (some ⟨t2.next, 0, none⟩)) (Turns.ofPut hnx4' hot4') (fun j hj e => ?_)).mono (fun j hj => ?_)
   ·have e : some t2.next = some j := e
    injection e with e; omega
   ·rw [hFF]; exact ⟨by omega, fun h => h, fun e => by have := hy2.idlt _ e; omega⟩
  simp -implicitDefEqProofs (disch := omega) only [allW, allR, allL, allB, Nat.sub_self, Nat.add_one_sub_one, Nat.reduceSub, oneOf, evalAll, partsA, optA, Nat.reduceLT, Nat.reduceLeDiff, Nat.reduceEqDiff, Nat.reduceAdd, ↓reduceIte, hn, h4, h5, h6, h7, h24, h25, h26, hy2.self]
  refine LB.sstep_append Try.underlying27 Try.underlying27 (.inl ⟨_, rfl⟩) szI byI zI rfl (hy2.keeps kt4) hbs.sees.src hel (by decide) hesok (by omega) (by omega) (base := s8.next) hyF (by omega) (fun h => absurd rfl h) (fun j hj => by have := hBl j hj; omega) ?_
  intro y' t5 hy5 hF5 hut5 hor
  have p5 := hut5.next
  have hR4 := hR2.keeps rowedI kt4
  rw [hFF] at hR4 hi4
  have hR5 := hR4.grow rowedI hel hi4 hut5 hor
  rw [show (fun j => s8.next ≤ j ∧ ¬ (fun _ => False) j ∧ idOf y' ≠ some j) = FF y' by rw [hFF]] at hR5
  have hyl : ∀ j, idOf y = some j -> s8.next ≤ j := hyF
  have hy5p : idOf y' ≠ some s4.next := fun e => by have := hF5 _ e; omega
  have hyp : idOf y ≠ some s4.next := fun e => by have := hyl _ e; omega
  simp -implicitDefEqProofs (disch := omega) only [allW, allR, allL, allB, Nat.sub_self, Nat.add_one_sub_one, Nat.reduceSub, oneOf, evalAll, partsA, optA, Nat.reduceLT, Nat.reduceLeDiff, Nat.reduceEqDiff, Nat.reduceAdd, ↓reduceIte, hn, h4, h5, h6, h7, h24, h25, h26, df4, hlow7]
  refine LB.sstep_storeN szIs (by decide) ((hb42.keeps kt4).turns hut5 hyp) (off := 8) (c := 10) (by rw [db_len htl']) (vs := [y']) hy5.sees.cell1 rfl (by rw [db_len htl']; exact Nat.le_refl _) (by simp [hy5.sees.okCell]) (fun h => absurd rfl h) ?_
  intro t6 ht6 hnx6 hot6
  rw [dc_over htl'] at ht6
  have hu6 : Turns (.pointer (some ⟨s4.next, 0, none⟩)) t5 t6 := Turns.ofPut hnx6 hot6
  have hne6 : ∀ j, FF y' j -> idOf (.pointer (some ⟨s4.next, 0, none⟩)) ≠ some j := fun j hj e => by
   have e : some s4.next = some j := e
   injection e with e
   rw [hFF] at hj; have := hj.1; omega
  simp -implicitDefEqProofs (disch := omega) only [allW, allR, allL, allB, Nat.sub_self, Nat.add_one_sub_one, Nat.reduceSub, oneOf, evalAll, partsA, optA, Nat.reduceLT, Nat.reduceLeDiff, Nat.reduceEqDiff, Nat.reduceAdd, ↓reduceIte, allW, allR, oneOf, evalAll, partsA, optA, Nat.reduceLT, Nat.reduceLeDiff, Nat.reduceEqDiff, Nat.reduceAdd, ↓reduceIte, hn, h4, h5, h6, h7, h24, h25, h26, wrapI]
  refine wround_next (D.items.length - (i + 1)) (by omega) ⟨i + 1, y', IC ++ es, rfl, by omega, hy5.ofPut hnx6 hot6 hy5p, ?_, hF5, fun h => absurd h (by omega), ht6, ?_, by simp only [get_put, n_put, ↓reduceIte, Nat.reduceEqDiff, hn], by simp only [get_put, n_put, ↓reduceIte, Nat.reduceEqDiff, h4], by simp only [get_put, n_put, ↓reduceIte, Nat.reduceEqDiff, h5], by simp only [get_put, n_put, ↓reduceIte, Nat.reduceEqDiff, h6], by simp only [get_put, n_put, ↓reduceIte, Nat.reduceEqDiff, h7], by simp only [get_put, n_put, ↓reduceIte, Nat.reduceEqDiff, h24], by simp only [get_put, n_put, ↓reduceIte, Nat.reduceEqDiff, h25], by simp only [get_put, n_put, ↓reduceIte, Nat.reduceEqDiff]; rfl⟩
  ·rw [List.take_add_one, List.getElem?_eq_getElem hlt]
   exact hR5.turns rowedI hu6 hne6
  ·exact ⟨by omega, fun q hq hne => by rw [hot6 q (fun e => hne (by rw [e]; rfl)), hut5.get q (by omega) (fun e => by have := hyl _ e; omega), kt4.get q (by omega), kt2.get q (by omega), htu.get q hq hne]⟩
 clear hn h0 h1 h2 f ht7 hot7 hm6 hD6 hself6 hl6 hk6 htq hDq htq5 hDq5 hlow hln
 rintro z f t ⟨rfl, y, IC, hy, hR, hyF, hy0, hb4, htu, hn, h4, h5, h6, h7⟩
 have hnt := htu.next
 have hst : Stay s4.next s8 t := ⟨htu.next, fun j hj => htu.get j (by omega) (fun e => by
  have e : some s4.next = some j := e
  injection e with e; omega)⟩
 have k4t : Stay s4.next s4 t := k48.trans hst
 have hbn := ht24.keeps k4t
 have hbo := ht34.keeps k4t
 have hbr := ht4.keeps k4t
 have hot := ho4.keeps k4t
 have hns : ∀ j, s4.next + 1 ≤ j ∧ j < s8.next -> idOf (.pointer (some ⟨s4.next, 0, none⟩)) ≠ some j := fun j hj e => by
  have e : some s4.next = some j := e
  injection e with e; omega
 have hmt : Own t 1 mv' D.mark.length (ofBytes D.mark) := hm8.turns htu (fun j hj => hns j (hmi j hj))
 have hott := ho8.turns htu hns
 have l4 : loadA Try.prog t 3 (.pointer (some ⟨s1.next, 0, some 2⟩)) = some (.int .i64 n) := hbn.load agInt (off := 0) (c := 2) rfl (by simp)
 have hDt : DocIs (fun j => s4.next + 1 ≤ j ∧ (j < s8.next ∨ idOf y = some j ∨ FF y j)) t mv' tc' y IC D :=
  ⟨hmt.sees, Foot.of_id (fun j hj => ⟨(hmi j hj).1, .inl (hmi j hj).2⟩), hott.mono (fun j hj => ⟨hj.1, .inl hj.2⟩), hy.sees, Foot.of_id (fun j hj => ⟨by have := hyF j hj; omega, .inr (.inl hj)⟩), hR.mono rowedI (fun j hj => ⟨by rw [hFF] at hj; have := hj.1; omega, .inr (.inr hj)⟩)⟩
 have hDl := docC_len hDt
 have hDk := docC_ok hDt
 have hret : ∀ t2 : ASt, (∀ j, j ≠ s3.next -> t2.heap.get j = t.heap.get j) -> t2.next = t.next -> NewD s D (.agg (docC D mv' tc' y).toArray) t2 := by
  intro t2 hot2 hnx2
  have hu2 : Turns (.pointer (some ⟨s3.next, 0, none⟩)) t t2 := Turns.ofPut hnx2 hot2
  exact ⟨mv', tc', y, IC, rfl, (hDt.turns hu2 (fun j hj e => by
   have e : some s3.next = some j := e
   injection e with e; have := hj.1; omega)).mono (fun j hj => by have := hj.1; omega), (k04.trans (k4t.weaken (by omega))).trans ⟨by omega, fun j hj => hot2 j (by omega)⟩⟩
 have hd10 : noneD.length + 1 = 10 := rfl
 by_cases c1 : n < 1
 ·have e : setD n o D = D := if_pos (.inl c1)
  rw [e]
  simp -implicitDefEqProofs (disch := omega) only [allW, allR, oneOf, evalAll, partsA, optA, Nat.reduceLT, Nat.reduceLeDiff, Nat.reduceEqDiff, Nat.reduceAdd, ↓reduceIte, undef, hn, h4, h5, h6, h7, l4, eq_true c1, db_all hb4 htl']
  refine wstep_storeAll szD (by decide) hbr rfl rfl hDl hDk ?_
  intro t2 ht2' hnx2' hot2'
  have ht2' : Thing t2 s3.next (docC D mv' tc' y) := ht2'
  simp -implicitDefEqProofs (disch := omega) only [allW, allR, wfn_ret, wfn_normal, oneOf, evalAll, partsA, optA, Nat.reduceLT, Nat.reduceLeDiff, Nat.reduceEqDiff, Nat.reduceAdd, ↓reduceIte, hn, h6, db_all ht2' htl', resultsA_cell, Try.results34]
  exact hret t2 hot2' hnx2'
 by_cases c2 : n > 8388607
 ·have e : setD n o D = D := if_pos (.inr c2)
  rw [e]
  simp -implicitDefEqProofs (disch := omega) only [allW, allR, oneOf, evalAll, partsA, optA, Nat.reduceLT, Nat.reduceLeDiff, Nat.reduceEqDiff, Nat.reduceAdd, ↓reduceIte, undef, hn, h4, h5, h6, h7, l4, eq_false c1, eq_true c2, db_all hb4 htl']
  refine wstep_storeAll szD (by decide) hbr rfl rfl hDl hDk ?_
  intro t2 ht2' hnx2' hot2'
  have ht2' : Thing t2 s3.next (docC D mv' tc' y) := ht2'
  simp -implicitDefEqProofs (disch := omega) only [allW, allR, wfn_ret, wfn_normal, oneOf, evalAll, partsA, optA, Nat.reduceLT, Nat.reduceLeDiff, Nat.reduceEqDiff, Nat.reduceAdd, ↓reduceIte, hn, h6, db_all ht2' htl', resultsA_cell, Try.results34]
  exact hret t2 hot2' hnx2'
 clear hret
 have hset : setD n o D = { D with items := insI n o D.items } := if_neg (by omega)
 rw [hset]
 simp -implicitDefEqProofs (disch := omega) only [allW, allR, oneOf, evalAll, partsA, optA, Nat.reduceLT, Nat.reduceLeDiff, Nat.reduceEqDiff, Nat.reduceAdd, ↓reduceIte, undef, hn, h4, h5, h6, h7, l4, eq_false c1, eq_false c2, df4, db_items hb4 htl', aop_makeFunc, hy.self]
 refine (indexI hli 56 [.pointer (some ⟨s1.next, 0, some 2⟩)] t y D.items.length IC hy.sees (by omega) (geI D.items n) (fun i hi s' hs' => ?_)).mono ?_
 ·rw [geI_at hi]
  exact cloP hlc (FF y) s' _ _ (rowedI.keeps (hR.row i hi) hs') s1.next n (hbn.keeps hs')
 rintro _ t1 ⟨⟨r, rfl, hr⟩, kt1⟩
 have p1 := kt1.next
 have hy1 := hy.keeps kt1
 have hb41 := hb4.keeps kt1
 have hbn1 := hbn.keeps kt1
 have l41 : loadA Try.prog t1 3 (.pointer (some ⟨s1.next, 0, some 2⟩)) = some (.int .i64 n) := hbn1.load agInt (off := 0) (c := 2) rfl (by simp)
 have hla := hy1.sees.lenA (P := Try.prog) Try.underlying27 (s2 := t1)
 have hq0 : ∃ k q : Nat, k ≤ D.items.length ∧ q ≤ D.items.length ∧ (q = k ∨ q = k + 1) ∧ insI n o D.items = D.items.take k ++ ((n, o) :: D.items.drop q) ∧ ((r = -1 ∧ k = D.items.length ∧ q = k) ∨ (r = k ∧ ∃ h : k < D.items.length, (D.items[k].1 = n ∧ q = k + 1 ∨ D.items[k].1 ≠ n ∧ q = k))) := by
  rcases hr with ⟨rfl, hall⟩ | ⟨k, hk, rfl, hk1, hk0⟩
  ·refine ⟨D.items.length, D.items.length, Nat.le_refl _, Nat.le_refl _, .inl rfl, ?_, .inl ⟨rfl, rfl, rfl⟩⟩
   refine insI_at (Nat.le_refl _) (fun j h _ => ?_) (fun h => absurd h (by omega)) _ (.inl ⟨rfl, fun h => absurd h (by omega)⟩)
   have := hall j h
   rw [geI_at h] at this
   have := of_decide_eq_false this
   omega
  ·rw [geI_at hk] at hk1
   have hk1 := of_decide_eq_true hk1
   have hlt : ∀ j (h : j < D.items.length), j < k -> D.items[j].1 < n := fun j h hj => by
    have := hk0 j hj
    rw [geI_at h] at this
    have := of_decide_eq_false this
    omega
   by_cases e : D.items[k].1 = n
   ·exact ⟨k, k + 1, by omega, by omega, .inr rfl, insI_at (by omega) hlt (fun _ => hk1) _ (.inr ⟨rfl, hk, e⟩), .inr ⟨rfl, hk, .inl ⟨e, rfl⟩⟩⟩
   ·exact ⟨k, k, by omega, by omega, .inl rfl, insI_at (by omega) hlt (fun _ => hk1) _ (.inl ⟨rfl, fun _ => e⟩), .inr ⟨rfl, hk, .inr ⟨e, rfl⟩⟩⟩
 clear hr
 obtain ⟨k, q, hkl, hql, hkq, hins, hcase⟩ := hq0
 have hlk : insI n o D.items = D.items.take k ++ ((n, o) :: D.items.drop q) := hins
 rcases hcase with ⟨rfl, hk, hq⟩ | ⟨rfl, hk, ⟨hq, hq'⟩ | ⟨hq, hq'⟩⟩
 have d1 : (-1 : Int) < 0 := by omega
 have d2 : ¬ ((k : Nat) : Int) < ((k : Nat) : Int) := by omega
 rw [← hk] at hla
 subst hq
 simp -implicitDefEqProofs (disch := omega) only [allW, allR, oneOf, evalAll, partsA, optA, Nat.reduceLT, Nat.reduceLeDiff, Nat.reduceEqDiff, Nat.reduceAdd, ↓reduceIte, undef, hn, h4, h5, h6, h7, eq_true d1, eq_false d2, df4, db_items hb41 htl', hla, hy1.self]
 rotate_left
 have d1 : ¬ ((k : Nat) : Int) < 0 := by omega
 have d2 : ((k : Nat) : Int) < ((D.items.length : Nat) : Int) := by omega
 have hix := hy1.sees.indexAddr (P := Try.prog) (k := .i64) (x := (k : Int)) Try.underlying27 szI (by omega) (by omega)
 rw [Int.toNat_natCast] at hix
 obtain ⟨q0, q1⟩ := efI hy1.sees hk
 obtain ⟨b1, b2, b3, -⟩ := itemB ((hR.keeps rowedI kt1).row k hk)
 have hln := hy1.sees.loadField (P := Try.prog) agInt hk (j := 0) (by omega)
 rw [Nat.add_zero, b1] at hln
 have hqe : (k : Int) + 1 = ((q : Nat) : Int) := by omega
 simp -implicitDefEqProofs (disch := omega) only [allW, allR, oneOf, evalAll, partsA, optA, Nat.reduceLT, Nat.reduceLeDiff, Nat.reduceEqDiff, Nat.reduceAdd, ↓reduceIte, undef, hn, h4, h5, h6, h7, eq_false d1, eq_true d2, df4, db_items hb41 htl', hla, hy1.self, valEq_plus, hix, q0, hln, l41, hq, wrapI, hqe]
 rotate_left
 have d1 : ¬ ((k : Nat) : Int) < 0 := by omega
 have d2 : ((k : Nat) : Int) < ((D.items.length : Nat) : Int) := by omega
 have hix := hy1.sees.indexAddr (P := Try.prog) (k := .i64) (x := (k : Int)) Try.underlying27 szI (by omega) (by omega)
 rw [Int.toNat_natCast] at hix
 obtain ⟨q0, q1⟩ := efI hy1.sees hk
 obtain ⟨b1, b2, b3, -⟩ := itemB ((hR.keeps rowedI kt1).row k hk)
 have hln := hy1.sees.loadField (P := Try.prog) agInt hk (j := 0) (by omega)
 rw [Nat.add_zero, b1] at hln
 subst hq'
 simp -implicitDefEqProofs (disch := omega) only [allW, allR, oneOf, evalAll, partsA, optA, Nat.reduceLT, Nat.reduceLeDiff, Nat.reduceEqDiff, Nat.reduceAdd, ↓reduceIte, undef, hn, h4, h5, h6, h7, eq_false d1, eq_true d2, df4, db_items hb41 htl', hla, hy1.self, valEq_plus, hix, q0, hln, l41, eq_false hq]
 rotate_left
 all_goals
  obtain ⟨B, hBe⟩ : ∃ B : Nat -> Bool, B = fun j => decide (j < t1.next) := ⟨_, rfl⟩
  have hBl : ∀ j, B j = true -> j < t1.next := by
   intro j h
   rw [hBe] at h
   exact of_decide_eq_true h
  have hBo : ∀ j, j < t1.next -> B j = true := fun j h => by rw [hBe]; exact decide_eq_true h
  refine LB.Drawn.looseK B hBl 1 1 (by kernel_rfl) (by kernel_rfl) ?_
  have hsq := Stay.spare t1 1
  have hnq : (spare t1 1).next = t1.next + 1 := spare_next _ _
  have hlow7 : ∀ k, LA.lowV B (some (.pointer (some ⟨s4.next, k, some 10⟩))) = true := fun k => LA.lowV_ptr (A := B) (i := s4.next) (hBo _ hb41.lt)
  have hlow4 : ∀ k, LA.lowV B (some (.pointer (some ⟨s1.next, k, some 2⟩))) = true := fun k => LA.lowV_ptr (A := B) (i := s1.next) (hBo _ hbn1.lt)
  have hlow5 : ∀ k, LA.lowV B (some (.pointer (some ⟨s2.next, k, some 6⟩))) = true := fun k => LA.lowV_ptr (A := B) (i := s2.next) (hBo _ (hbo.keeps kt1).lt)
  have hbq := hb41.keeps hsq
  have hyq := hy1.keeps hsq
  have hoq := (hot.keeps kt1).keeps hsq
  have lq4 : loadA Try.prog (spare t1 1) 3 (.pointer (some ⟨s1.next, 0, some 2⟩)) = some (.int .i64 n) := (hbn1.keeps hsq).load agInt (off := 0) (c := 2) rfl (by simp)
  have lq5 := Thing.loadO ((hbo.keeps kt1).keeps hsq) hcl
  simp -implicitDefEqProofs (disch := omega) only [allW, allR, allL, allB, Nat.sub_self, Nat.add_one_sub_one, Nat.reduceSub, oneOf, evalAll, partsA, optA, Nat.reduceLT, Nat.reduceLeDiff, Nat.reduceEqDiff, Nat.reduceAdd, ↓reduceIte, hn, h4, h5, h6, h7, df4, hlow4, hlow5, hlow7, db_items hbq htl', hyq.self, lq4, lq5, hoq.self, valEq_int]
  refine (copyO hcp hlb _ o (Nat.le_refl _) _ (spare t1 1) cs hoq hso).mono ?_
  rintro v3 t3 h3
  obtain ⟨es5, rfl, ho3, kst3⟩ := h3.is
  have p3 := kst3.next
  have hel5 := ho3.len
  refine ⟨fun _ => LA.Stay.toA hBl (kst3.weaken (by omega)), ?_⟩
  obtain ⟨es, hes⟩ : ∃ es, es = Value.int .i64 n :: es5 := ⟨_, rfl⟩
  have hel : es.length = 6 := by rw [hes]; simp [hel5]
  have hesok : es.all okCell = true := by rw [hes, List.all_cons, ho3.ok]; rfl
  have hself6 : valEq (.agg es.toArray) (.agg es.toArray) = true := by rw [hes]; exact item_self _ ho3.self
  have hbI := bItem n hel5
  rw [← hes] at hbI
  simp -implicitDefEqProofs (disch := omega) only [allW, allR, allL, allB, Nat.sub_self, Nat.add_one_sub_one, Nat.reduceSub, oneOf, evalAll, partsA, optA, Nat.reduceLT, Nat.reduceLeDiff, Nat.reduceEqDiff, Nat.reduceAdd, ↓reduceIte, hn, h4, h5, h6, h7, ho3.self, hbI, hself6, buildAgg1 (cs := es.toArray) Try.underlying27 szI zI plI rfl hel (by decide)]
  refine LB.smake_newSlice (base := t1.next) hel (by omega) (Nat.le_refl _) ?_
  intro bs t4 hbs hid kst4 hnx4' hot4'
  have kt4 : Stay t1.next t1 t4 := (hsq.trans (kst3.weaken (by omega))).trans kst4
  have p4 := kt4.next
  have hi4 : ItIs (FF y) t4 es (n, o) := by
   refine ⟨es5, hes, ?_⟩
   refine (ho3.turns (u := .pointer (some ⟨t1.next, 0, none⟩)) (Turns.ofPut hnx4' hot4') (fun j hj e => ?_)).mono (fun j hj => ?_)
   ·have e : some t1.next = some j := e
    injection e with e; omega
   ·rw [hFF]; exact ⟨by omega, fun h => h, fun e => by have := hy1.idlt _ e; omega⟩
  have hy4 := hy1.keeps kt4
  have hR4 := (hR.keeps rowedI kt1).keeps rowedI kt4
  have hN := (hR4.ins hel hi4 hkl hql).below rowedI
  obtain ⟨x', t5, hx1, hx2, hx3, hx4⟩ := Own.repl (P := Try.prog) (t := 27) Try.underlying27 szI byI zI rfl (by decide) hy4 hbs (by
   rcases Nat.eq_zero_or_pos D.items.length with h | h
   ·exact .inr (hy0 h)
   ·exact .inl h) (fun i hi e => by
   rw [hid] at e; injection e with e; have := hy1.idlt _ hi; omega) hkl hkq hql (by omega) (by decide) hR4.allOk hesok
  simp -implicitDefEqProofs (disch := omega) only [allW, allR, allL, allB, Nat.sub_self, Nat.add_one_sub_one, Nat.reduceSub, oneOf, evalAll, partsA, optA, Nat.reduceLT, Nat.reduceLeDiff, Nat.reduceEqDiff, Nat.reduceAdd, ↓reduceIte, hn, h4, h5, h6, h7, hy1.self, hbs.self]
  refine Runs.prim hp (pRepl_fr _ _ _) hx1 ?_
  refine ⟨fun h => h.elim, ?_⟩
  have hyl : ∀ j, idOf y = some j -> s8.next ≤ j := hyF
  have hxl : ∀ j, idOf x' = some j -> s8.next ≤ j := fun j hj => by
   rcases hx4 with e | ⟨i, e, hi⟩
   ·exact hyl j (by rw [← e]; exact hj)
   ·rw [e] at hj; injection hj with hj; omega
  have hyp : idOf y ≠ some s4.next := fun e => by have := hyl _ e; omega
  have hyr : idOf y ≠ some s3.next := fun e => by have := hyl _ e; omega
  have hxp : idOf x' ≠ some s4.next := fun e => by have := hxl _ e; omega
  have p5 := hx3.next
  obtain ⟨E, hE⟩ : ∃ E : Dc, E = { D with items := insI n o D.items } := ⟨_, rfl⟩
  have e := congrArg List.length hins
  simp only [List.length_append, List.length_take, List.length_cons, List.length_drop] at e
  have hx5 := Own.at hx2 (m := (insI n o D.items).length) (by omega)
  rw [← hins] at hN
  have hN5 := (hN.turns rowedI hx3 (fun j hj => by have := hj.1; rw [hFF] at this; exact this.2.2)).mono rowedI (G := fun j => s4.next + 1 ≤ j) (fun j hj => by
   have := hj.1
   rw [hFF] at this
   have := this.1; omega)
  have hm5 := ((hmt.keeps kt1).keeps kt4).turns hx3 (fun j hj e => by have := (hmi j hj).2; have := hyl _ e; omega)
  have ho5 := ((hott.keeps kt1).keeps kt4).turns hx3 (fun j hj e => by have := hyl _ e; omega)
  simp -implicitDefEqProofs (disch := omega) only [allW, allR, allL, allB, Nat.sub_self, Nat.add_one_sub_one, Nat.reduceSub, oneOf, evalAll, partsA, optA, Nat.reduceLT, Nat.reduceLeDiff, Nat.reduceEqDiff, Nat.reduceAdd, ↓reduceIte, hn, h4, h5, h6, h7, df4, hlow7]
  refine LB.sstep_storeN szIs (by decide) ((hb41.keeps kt4).turns hx3 hyp) (off := 8) (c := 10) (by rw [db_len htl']) (vs := [x']) hx5.sees.cell1 rfl (by rw [db_len htl']; exact Nat.le_refl _) (by simp [hx5.sees.okCell]) (fun h => absurd rfl h) ?_
  intro t6 ht6 hnx6 hot6
  rw [dc_over htl'] at ht6
  have ht6 : Thing t6 s4.next (docC E mv' tc' x') := by rw [hE]; exact ht6
  obtain ⟨NC, hD5⟩ : ∃ NC, DocIs (fun j => s4.next + 1 ≤ j) t5 mv' tc' x' NC E := by
   rw [hE]
   exact ⟨_, hm5.sees, Foot.of_id (fun j hj => by have := hmi j hj; omega), ho5.mono (fun j hj => hj.1), hx5.sees, Foot.of_id (fun j hj => by have := hxl j hj; omega), hN5⟩
  have hu6 : Turns (.pointer (some ⟨s4.next, 0, none⟩)) t5 t6 := Turns.ofPut hnx6 hot6
  have hD6 := hD5.turns hu6 (fun j hj e => by
   have e : some s4.next = some j := e
   injection e with e; omega)
  have hDl' := docC_len hD6
  have hDk' := docC_ok hD6
  have hbr6 : Thing t6 s3.next noneD := (((hbr.keeps kt1).keeps kt4).turns hx3 hyr).ofPut hnx6 hot6 (by omega)
  simp -implicitDefEqProofs (disch := omega) only [allW, allR, allL, allB, Nat.sub_self, Nat.add_one_sub_one, Nat.reduceSub, oneOf, evalAll, partsA, optA, Nat.reduceLT, Nat.reduceLeDiff, Nat.reduceEqDiff, Nat.reduceAdd, ↓reduceIte, allW, allR, oneOf, evalAll, partsA, optA, Nat.reduceLT, Nat.reduceLeDiff, Nat.reduceEqDiff, Nat.reduceAdd, ↓reduceIte, hn, h4, h5, h6, h7, db_all ht6 htl']
  refine wstep_storeAll szD (by decide) hbr6 rfl rfl hDl' hDk' ?_
  intro t7 ht7 hnx7 hot7
  have ht7 : Thing t7 s3.next (docC E mv' tc' x') := ht7
  simp -implicitDefEqProofs (disch := omega) only [allW, allR, wfn_ret, wfn_normal, oneOf, evalAll, partsA, optA, Nat.reduceLT, Nat.reduceLeDiff, Nat.reduceEqDiff, Nat.reduceAdd, ↓reduceIte, hn, h6, db_all ht7 htl', resultsA_cell, Try.results34]
  rw [← hE]
  have hu7 : Turns (.pointer (some ⟨s3.next, 0, none⟩)) t6 t7 := Turns.ofPut hnx7 hot7
  exact ⟨mv', tc', x', _, rfl, (hD6.turns hu7 (fun j hj e => by
   have e : some s3.next = some j := e
   injection e with e; omega)).mono (fun j hj => by omega), (k04.trans (k4t.weaken (by omega))).trans ⟨by omega, fun j hj => by rw [hot7 j (by omega), hot6 j (by omega), hx3.get j (by omega) (fun e => by have := hyl _ e; omega), kt4.get j (by omega), kt1.get j (by omega)]⟩⟩
end Go.Proofs.Ythlbahnfimigcaa
set_option linter.unusedSimpArgs false
set_option linter.unusedVariables false
set_option maxRecDepth 100000
namespace Go.Proofs.Ythlbahnfimigcaa
open Go.Cl Go.Lib
set_option maxHeartbeats 16000000 in
theorem rput_any {lib : Prims} (hl : lib.at 33 = none) (hcp : lib.at 53 = none) (hlb : lib.at 44 = none)
  (F : Nat -> Prop) (s : ASt) (D : Dc) (mv : Value) (tc : List Value) (iv : Value) (ic : List Value) (hD : DocIs F s mv tc iv ic D) (hs : SmallP D) (hri : D.items.Pairwise fun a b => a.1 < b.1) (hnu : ∀ e ∈ D.items, 1 ≤ e.1 ∧ e.1 ≤ 8388607) (n : Int) (cs : List Value) (o : O) (ho : OIs F s cs o) (hso : Small o) :
  Runs Try.prog lib 33 [.agg (docC D mv tc iv).toArray, .int .i64 n, .agg cs.toArray] s (NewD s (setD n o D)) := by
 have htl := hD.trailer.len
 have hcl := ho.len
 have dl := db_len (D := D) (mv := mv) (iv := iv) htl
 have hmk := hs.mark
 have hlen := hs.len
 refine Runs.enter 84 Try.func33 rfl hl rfl rfl ?_
 intro f hn hf
 have h0 : f.get 0 = .agg (docC D mv tc iv).toArray := hf 0
 have h1 : f.get 1 = .int .i64 n := hf 1
 have h2 : f.get 2 = .agg cs.toArray := hf 2
 clear hf
 simp -implicitDefEqProofs (disch := omega) only [allW, allR, oneOf, evalAll, partsA, optA, Nat.reduceLT, Nat.reduceLeDiff, Nat.reduceEqDiff, Nat.reduceAdd, ↓reduceIte, hn, h0, h1, h2]
 refine wstep_newPtr ?_
 intro s1 ht1 hst1 hnx1
 have ht1 : Thing s1 s.next (docC D mv tc iv) := ht1
 simp -implicitDefEqProofs (disch := omega) only [allW, allR, oneOf, evalAll, partsA, optA, Nat.reduceLT, Nat.reduceLeDiff, Nat.reduceEqDiff, Nat.reduceAdd, ↓reduceIte, hn, h0, h1, h2, dl]
 refine wstep_newPtr ?_
 intro s3 ht3 hst3 hnx3
 have ht3 : Thing s3 s1.next cs := ht3
 simp -implicitDefEqProofs (disch := omega) only [allW, allR, oneOf, evalAll, partsA, optA, Nat.reduceLT, Nat.reduceLeDiff, Nat.reduceEqDiff, Nat.reduceAdd, ↓reduceIte, hn, h0, h1, h2, hcl, zD, plD]
 refine wstep_newPtr ?_
 intro s4 ht4 hst4 hnx4
 have ht4 : Thing s4 s3.next noneD := ht4
 have n1 := hst1.next
 have n3 := hst3.next
 have n4 := hst4.next
 have k14 : Stay s1.next s1 s4 := hst3.trans (hst4.weaken n3)
 have k04 : Stay s.next s s4 := hst1.trans (k14.weaken n1)
 have ht14 := ht1.keeps k14
 have ht34 := ht3.keeps hst4
 have hD4 := hD.lows.keeps k04
 have ho4 := ho.lows.keeps k04
 have hd10 : noneD.length + 1 = 10 := rfl
 simp -implicitDefEqProofs (disch := omega) only [allW, allR, oneOf, evalAll, partsA, optA, Nat.reduceLT, Nat.reduceLeDiff, Nat.reduceEqDiff, Nat.reduceAdd, ↓reduceIte, hn, h0, h1, h2, hd10]
 obtain ⟨A, hAe⟩ : ∃ A : Nat -> Bool, A = fun j => decide (j < s4.next) := ⟨_, rfl⟩
 have hAl : ∀ j, A j = true -> j < s4.next := by
  intro j h
  rw [hAe] at h
  exact of_decide_eq_true h
 have hAo : ∀ j, j < s4.next -> A j = true := fun j h => by rw [hAe]; exact decide_eq_true h
 refine LB.Drawn.looseK A hAl 2 1 (by kernel_rfl) (by kernel_rfl) ?_
 have hsp := Stay.spare s4 1
 have hnT : (spare s4 1).next = s4.next + 1 := spare_next _ _
 have htq := ht14.keeps hsp
 have hDq := hD4.keeps hsp
 have hlow : ∀ k, LA.lowV A (some (.pointer (some ⟨s.next, k, some 10⟩))) = true := fun k => LA.lowV_ptr (A := A) (i := s.next) (hAo _ ht14.lt)
 simp -implicitDefEqProofs (disch := omega) only [allW, allR, allL, allB, Nat.sub_self, Nat.add_one_sub_one, Nat.reduceSub, oneOf, evalAll, partsA, optA, Nat.reduceLT, Nat.reduceLeDiff, Nat.reduceEqDiff, Nat.reduceAdd, ↓reduceIte, hn, h0, h1, h2, df0, df1, df2, df3, hlow, db_minor htq htl, db_mark htq htl, hDq.mark.self, valEq_int]
 refine (copy_any hlb (spare s4 1) mv D.mark hDq.mark (by omega)).mono ?_
 rintro mv' s5 ⟨hmo, hmF, hst5⟩
 have n5 := hst5.next
 have htq5 := htq.keeps hst5
 have hDq5 := hDq.keeps hst5
 refine ⟨fun _ => LA.Stay.toA hAl (hst5.weaken (by omega)), ?_⟩
 have k45 : Stay s4.next s4 s5 := hsp.trans (hst5.weaken (by omega))
 simp -implicitDefEqProofs (disch := omega) only [allW, allR, allL, allB, Nat.sub_self, Nat.add_one_sub_one, Nat.reduceSub, oneOf, evalAll, partsA, optA, Nat.reduceLT, Nat.reduceLeDiff, Nat.reduceEqDiff, Nat.reduceAdd, ↓reduceIte, hn, h0, h1, h2, df0, df1, df2, df3, hlow, db_tail htq5 htl, db_trailer htq5 htl, hDq5.trailer.self, hmo.sees.self, valEq_int]
 refine (rcopyO hcp hlb _ D.trailer (Nat.le_refl _) _ s5 tc hDq5.trailer hs.trailer).mono ?_
 rintro _ s6 ⟨tc', rfl, ho6, hst6⟩
 have n6 := hst6.next
 have htl' := ho6.len
 refine ⟨fun _ => LA.Stay.toA hAl (hst6.weaken (by omega)), ?_⟩
 obtain ⟨ma, ml, mb, rfl⟩ := hmo.slice
 have hm6 := hmo.keeps hst6
 have hD6 : DocIs (fun _ => True) s6 (.slice ma ml mb) tc' (.slice none 0 0) [] ⟨D.minor, D.mark, D.tail, D.trailer, []⟩ := ⟨hm6.sees, Foot.of_id (fun _ _ => trivial), ho6.mono (fun _ _ => trivial), .nil, Foot.of_id (fun _ _ => trivial), ORows.nil⟩
 have hself6 := hD6.self
 have hl6 := docC_len hD6
 have hk6 := docC_ok hD6
 have hself6 : valEq (.agg (docC D (.slice ma ml mb) tc' (.slice none 0 0)).toArray) (.agg (docC D (.slice ma ml mb) tc' (.slice none 0 0)).toArray) = true := hself6
 have hl6 : (docC D (.slice ma ml mb) tc' (.slice none 0 0)).length = 9 := hl6
 have hk6 : (docC D (.slice ma ml mb) tc' (.slice none 0 0)).all okCell = true := hk6
 have hbd : buildA Try.prog 29 [(0, .int .i64 D.minor), (1, .slice ma ml mb), (2, .int .i64 D.tail), (3, .agg tc'.toArray)] = some (.agg (docC D (.slice ma ml mb) tc' (.slice none 0 0)).toArray) := bDoc4 D.minor D.tail ma ml mb htl'
 obtain ⟨mv', hmv⟩ : ∃ mv' : Value, mv' = .slice ma ml mb := ⟨_, rfl⟩
 simp -implicitDefEqProofs (disch := omega) only [allW, allR, allL, allB, Nat.sub_self, Nat.add_one_sub_one, Nat.reduceSub, oneOf, evalAll, partsA, optA, Nat.reduceLT, Nat.reduceLeDiff, Nat.reduceEqDiff, Nat.reduceAdd, ↓reduceIte, hn, h0, h1, h2, ho6.self, hbd, hself6, zD, plD]
 clear hbd
 rw [← hmv] at hself6 hl6 hk6 hm6 hD6 hmF hmo ⊢
 refine LB.smake_newPtr (by omega) ?_
 intro s7 ht7 hnx7 hot7
 simp -implicitDefEqProofs (disch := omega) only [allW, allR, allL, allB, Nat.sub_self, Nat.add_one_sub_one, Nat.reduceSub, oneOf, evalAll, partsA, optA, Nat.reduceLT, Nat.reduceLeDiff, Nat.reduceEqDiff, Nat.reduceAdd, ↓reduceIte, hn, h0, h1, h2, hd10]
 refine LB.sstep_storeAll szD (by decide) ht7 rfl rfl (by simpa using hl6) hk6 (fun h => absurd rfl h) ?_
 intro s8 ht8 hnx8 hot8
 have ht8 : Thing s8 s4.next (docC D mv' tc' (.slice none 0 0)) := ht8
 have k48 : Stay s4.next s4 s8 := ((k45.trans (hst6.weaken (by omega))).trans ⟨by omega, fun j hj => hot7 j (by omega)⟩).trans ⟨by omega, fun j hj => hot8 j (by omega)⟩
 have m8 := k48.next
 have hm8 : Own s8 1 mv' D.mark.length (ofBytes D.mark) := (hm6.ofPut hnx7 hot7 (fun e => by have := hmF _ e; omega)).ofPut hnx8 hot8 (fun e => by have := hmF _ e; omega)
 have ho8 : OIs (fun j => s4.next + 1 ≤ j ∧ j < s8.next) s8 tc' D.trailer := by
  have := ((ho6.ofPut hnx7 hot7 (by omega)).ofPut hnx8 hot8 (by omega)).lows
  exact this.mono (fun j hj => ⟨by have := hj.1; omega, hj.2⟩)
 have hmi : ∀ j, idOf mv' = some j -> s4.next + 1 ≤ j ∧ j < s8.next := fun j hj => ⟨by have := hmF j hj; omega, hm8.idlt j hj⟩
 have hD8 := hD4.keeps k48
 have hO8 := ho4.keeps k48
 have hb18 := ht14.keeps k48
 have hb38 := ht34.keeps k48
 have hb48 := ht4.keeps k48
 have hp8 : s4.next < s8.next := ht8.lt
 obtain ⟨FF, hFF⟩ : ∃ FF : Value -> Nat -> Prop, FF = fun v j => s8.next ≤ j ∧ ¬ (fun _ => False) j ∧ idOf v ≠ some j := ⟨_, rfl⟩
 obtain ⟨b0, hb0⟩ : ∃ b0 : Bool, b0 = decide (n < 1 ∨ 8388607 < n) := ⟨_, rfl⟩
 obtain ⟨IN, hIN⟩ : ∃ IN : Nat -> AFr -> ASt -> Prop, IN = fun z f t => ∃ (i : Nat) (x : Bool × List (Int × O)) (y : Value) (IC : List Value), z = D.items.length - i ∧ i ≤ D.items.length ∧ x = refP n o b0 (D.items.take i) ∧ Own t 6 y x.2.length IC ∧ ORows ItIs 6 (FF y) t x.2 IC ∧ Fresh s8.next y ∧ Thing t s4.next (docC D mv' tc' y) ∧ Turns (.pointer (some ⟨s4.next, 0, none⟩)) s8 t ∧ f.n = 84 ∧ f.get 1 = .int .i64 n ∧ f.get 3 = .pointer (some ⟨s.next, 0, some 10⟩) ∧ f.get 5 = .pointer (some ⟨s1.next, 0, some 6⟩) ∧ f.get 6 = .pointer (some ⟨s3.next, 0, some 10⟩) ∧ f.get 7 = .pointer (some ⟨s4.next, 0, some 10⟩) ∧ f.get 8 = .bool x.1 ∧ f.get 9 = .int .i64 (i : Nat) := ⟨_, rfl⟩
 have hstart : ∀ f : AFr, f.n = 84 -> f.get 1 = .int .i64 n -> f.get 3 = .pointer (some ⟨s.next, 0, some 10⟩) -> f.get 5 = .pointer (some ⟨s1.next, 0, some 6⟩) -> f.get 6 = .pointer (some ⟨s3.next, 0, some 10⟩) -> f.get 7 = .pointer (some ⟨s4.next, 0, some 10⟩) -> f.get 8 = .bool b0 -> f.get 9 = .int .i64 0 -> IN D.items.length f s8 := by
  intro f hn h1 h3 h5 h6 h7 h8 h9
  rw [hIN]
  exact ⟨0, (b0, []), .slice none 0 0, [], rfl, by omega, rfl, .nil, ORows.nil, Fresh.nil _, ht8, Turns.refl _ _, hn, h1, h3, h5, h6, h7, h8, h9⟩
 by_cases c1 : n < 1
 rotate_left
 by_cases c2 : n > 8388607
 have e : b0 = true := by rw [hb0]; exact decide_eq_true (by omega)
 simp -implicitDefEqProofs (disch := omega) only [allW, allR, allL, allB, Nat.sub_self, Nat.add_one_sub_one, Nat.reduceSub, oneOf, evalAll, partsA, optA, Nat.reduceLT, Nat.reduceLeDiff, Nat.reduceEqDiff, Nat.reduceAdd, ↓reduceIte, allW, allR, oneOf, evalAll, partsA, optA, Nat.reduceLT, Nat.reduceLeDiff, Nat.reduceEqDiff, Nat.reduceAdd, ↓reduceIte, undef, hn, h0, h1, h2, eq_false c1, eq_true c2]
 rotate_left
 have e : b0 = false := by rw [hb0]; exact decide_eq_false (by omega)
 simp -implicitDefEqProofs (disch := omega) only [allW, allR, allL, allB, Nat.sub_self, Nat.add_one_sub_one, Nat.reduceSub, oneOf, evalAll, partsA, optA, Nat.reduceLT, Nat.reduceLeDiff, Nat.reduceEqDiff, Nat.reduceAdd, ↓reduceIte, allW, allR, oneOf, evalAll, partsA, optA, Nat.reduceLT, Nat.reduceLeDiff, Nat.reduceEqDiff, Nat.reduceAdd, ↓reduceIte, undef, hn, h0, h1, h2, eq_false c1, eq_false c2]
 rotate_left
 have e : b0 = true := by rw [hb0]; exact decide_eq_true (by omega)
 simp -implicitDefEqProofs (disch := omega) only [allW, allR, allL, allB, Nat.sub_self, Nat.add_one_sub_one, Nat.reduceSub, oneOf, evalAll, partsA, optA, Nat.reduceLT, Nat.reduceLeDiff, Nat.reduceEqDiff, Nat.reduceAdd, ↓reduceIte, allW, allR, oneOf, evalAll, partsA, optA, Nat.reduceLT, Nat.reduceLeDiff, Nat.reduceEqDiff, Nat.reduceAdd, ↓reduceIte, undef, hn, h0, h1, h2, eq_true c1]
 all_goals
  refine Comes.loopOut IN (fun z f t => z = .exit 0 ∧ ∃ (x : Bool × List (Int × O)) (y : Value) (IC : List Value), x = refP n o b0 D.items ∧ Own t 6 y x.2.length IC ∧ ORows ItIs 6 (FF y) t x.2 IC ∧ Fresh s8.next y ∧ Thing t s4.next (docC D mv' tc' y) ∧ Turns (.pointer (some ⟨s4.next, 0, none⟩)) s8 t ∧ f.n = 84 ∧ f.get 1 = .int .i64 n ∧ f.get 5 = .pointer (some ⟨s1.next, 0, some 6⟩) ∧ f.get 6 = .pointer (some ⟨s3.next, 0, some 10⟩) ∧ f.get 7 = .pointer (some ⟨s4.next, 0, some 10⟩) ∧ f.get 8 = .bool x.1)
   (hstart _ (by simp only [get_put, n_put, ↓reduceIte, Nat.reduceEqDiff, hn]) (by simp only [get_put, n_put, ↓reduceIte, Nat.reduceEqDiff, h1]) (by simp only [get_put, n_put, ↓reduceIte, Nat.reduceEqDiff]) (by simp only [get_put, n_put, ↓reduceIte, Nat.reduceEqDiff]) (by simp only [get_put, n_put, ↓reduceIte, Nat.reduceEqDiff]) (by simp only [get_put, n_put, ↓reduceIte, Nat.reduceEqDiff]) (by simp only [get_put, n_put, ↓reduceIte, Nat.reduceEqDiff, e]) (by simp only [get_put, n_put, ↓reduceIte, Nat.reduceEqDiff])) ?_ ?_
  ·clear e hstart hn h0 h1 h2 f ht7 hot7 hm6 hD6 hself6 hl6 hk6 htq hDq htq5 hDq5 hlow
   rw [hIN]
   rintro Q hQ z f t ⟨i, x, y, IC, rfl, hi, hx, hy, hR, hyF, hb4, htu, hn, h1, h3, h5, h6, h7, h8, h9⟩
   have hnt := htu.next
   have hst : Stay s4.next s8 t := ⟨htu.next, fun j hj => htu.get j (by omega) (fun e => by
    have e : some s4.next = some j := e
    injection e with e; omega)⟩
   have k4t : Stay s4.next s4 t := k48.trans hst
   have hDt := hD4.keeps k4t
   have hbd := ht14.keeps k4t
   have hxl : x.2.length ≤ 1001 := by
    rw [hx]
    have := refP_len (n := n) (o := o) (b := b0) (D.items.take i)
    rw [List.length_take] at this
    omega
   have hla := hDt.items.lenA (P := Try.prog) Try.underlying27 (s2 := t)
   by_cases hlt : i < D.items.length
   rotate_left
   ·obtain rfl : i = D.items.length := by omega
    rw [List.take_of_length_le (Nat.le_refl _)] at hx
    have d1 : ¬ ((D.items.length : Nat) : Int) < ((D.items.length : Nat) : Int) := by omega
    simp -implicitDefEqProofs (disch := omega) only [allW, allR, oneOf, evalAll, partsA, optA, Nat.reduceLT, Nat.reduceLeDiff, Nat.reduceEqDiff, Nat.reduceAdd, ↓reduceIte, hn, h1, h3, h5, h6, h7, h8, h9, df4, db_items hbd htl, hla, eq_false d1]
    exact hQ _ _ _ ⟨rfl, x, y, IC, hx, hy, hR, hyF, hb4, htu, by simp only [get_put, n_put, ↓reduceIte, Nat.reduceEqDiff, hn], by simp only [get_put, n_put, ↓reduceIte, Nat.reduceEqDiff, h1], by simp only [get_put, n_put, ↓reduceIte, Nat.reduceEqDiff, h5], by simp only [get_put, n_put, ↓reduceIte, Nat.reduceEqDiff, h6], by simp only [get_put, n_put, ↓reduceIte, Nat.reduceEqDiff, h7], by simp only [get_put, n_put, ↓reduceIte, Nat.reduceEqDiff, h8]⟩
   have d1 : (i : Int) < (D.items.length : Int) := by omega
   have hIt := hDt.items
   have hix := hIt.indexAddr (P := Try.prog) (k := .i64) (x := (i : Int)) Try.underlying27 szI (by omega) (by omega)
   rw [Int.toNat_natCast] at hix
   have hld := hIt.loadAgg (P := Try.prog) agI szI hlt
   have hrow := hDt.rows.row i hlt
   obtain ⟨xs, hxs⟩ : ∃ xs, xs = (ic.drop (i * 6)).take 6 := ⟨_, rfl⟩
   rw [← hxs] at hld hrow
   simp -implicitDefEqProofs (disch := omega) only [allW, allR, oneOf, evalAll, partsA, optA, Nat.reduceLT, Nat.reduceLeDiff, Nat.reduceEqDiff, Nat.reduceAdd, ↓reduceIte, hn, h1, h3, h5, h6, h7, h8, h9, df4, db_items hbd htl, hla, eq_true d1, hix, hld, zI, plI]
   refine wstep_newPtr ?_
   intro t1 ht1' hst1' hnx1'
   have ht1' : Thing t1 t.next noneI := ht1'
   have p1 := hst1'.next
   have hd7 : noneI.length + 1 = 7 := rfl
   simp -implicitDefEqProofs (disch := omega) only [allW, allR, oneOf, evalAll, partsA, optA, Nat.reduceLT, Nat.reduceLeDiff, Nat.reduceEqDiff, Nat.reduceAdd, ↓reduceIte, hn, h1, h3, h5, h6, h7, h8, h9, hd7]
   refine wstep_storeAll szI (by decide) ht1' rfl rfl hrow.len hrow.ok ?_
   intro t2 ht2' hnx2' hot2'
   have kt2 : Stay t.next t t2 := hst1'.trans ⟨by omega, fun j hj => hot2' j (by omega)⟩
   have p2 := kt2.next
   obtain ⟨r, hr, hro⟩ := rowedI.keeps hrow kt2
   have hrl := hro.len
   have hb42 := hb4.keeps kt2
   have hy2 := hy.keeps kt2
   have hR2 := hR.keeps rowedI kt2
   have l1 : ∀ t2 : ASt, Thing t2 t.next xs -> loadA Try.prog t2 3 (.pointer (some ⟨t.next, 0, some 7⟩)) = some (.int .i64 D.items[i].1) := by
    intro t2 h
    have := h.load agInt (off := 0) (c := 7) (by rw [hrow.len]) (by rw [hrow.len]; omega)
    rw [hr] at this
    exact this
   have l2 : ∀ t2 : ASt, Thing t2 t.next xs -> loadA Try.prog t2 26 (.pointer (some ⟨t.next, 1, some 7⟩)) = some (.agg r.toArray) := by
    intro t2 h
    have := h.loadMid (P := Try.prog) agO szO (off := 1) (c := 7) (by rw [hrow.len]) (by rw [hrow.len]; omega)
    rw [hr, List.drop_one, List.tail_cons, List.take_of_length_le (by omega)] at this
    exact this
   obtain ⟨bx, lx⟩ := x
   have hyl : ∀ j, idOf y = some j -> s8.next ≤ j := hyF
   have hyp : idOf y ≠ some s4.next := fun e => by have := hyl _ e; omega
   have htu2 : Turns (.pointer (some ⟨s4.next, 0, none⟩)) s8 t2 := ⟨by omega, fun q hq hne => by rw [kt2.get q (by omega), htu.get q hq hne]⟩
   have hxl : lx.length ≤ 1001 := hxl
   cases bx
   rotate_left
   have hS : refS n o (true, lx) D.items[i] = (true, lx ++ [D.items[i]]) := if_neg (fun h => by have := h.1; cases this)
   simp -implicitDefEqProofs (disch := omega) only [allW, allR, oneOf, evalAll, partsA, optA, Nat.reduceLT, Nat.reduceLeDiff, Nat.reduceEqDiff, Nat.reduceAdd, ↓reduceIte, undef, hn, h1, h3, h5, h6, h7, h8, h9, if0, l1 _ ht2']
   obtain ⟨tA, rfl⟩ : ∃ tA, tA = t2 := ⟨_, rfl⟩
   obtain ⟨yA, rfl⟩ : ∃ yA, yA = y := ⟨_, rfl⟩
   have hyyA := hy2
   have hRyA := hR2
   have hFyA := hyF
   have hbyA := hb42
   have htuA := htu2
   have hxA := ht2'
   have hroA := hro
   have hLA : lx.length ≤ 1002 := by omega
   rotate_left
   by_cases d2 : D.items[i].1 ≥ n
   have hS : refS n o (false, lx) D.items[i] = if D.items[i].1 = n then (true, lx ++ [(n, o)]) else (true, lx ++ [(n, o)] ++ [D.items[i]]) := if_pos ⟨rfl, by omega⟩
   simp -implicitDefEqProofs (disch := omega) only [allW, allR, oneOf, evalAll, partsA, optA, Nat.reduceLT, Nat.reduceLeDiff, Nat.reduceEqDiff, Nat.reduceAdd, ↓reduceIte, undef, hn, h1, h3, h5, h6, h7, h8, h9, if0, l1 _ ht2', eq_true d2]
   obtain ⟨B, hBe⟩ : ∃ B : Nat -> Bool, B = fun j => decide (j < t2.next) := ⟨_, rfl⟩
   have hBl : ∀ j, B j = true -> j < t2.next := by
    intro j h
    rw [hBe] at h
    exact of_decide_eq_true h
   have hBo : ∀ j, j < t2.next -> B j = true := fun j h => by rw [hBe]; exact decide_eq_true h
   refine LB.Drawn.looseK B hBl 1 1 (by kernel_rfl) (by kernel_rfl) ?_
   have hsq := Stay.spare t2 1
   have hnq : (spare t2 1).next = t2.next + 1 := spare_next _ _
   have hlow7 : ∀ k, LA.lowV B (some (.pointer (some ⟨s4.next, k, some 10⟩))) = true := fun k => LA.lowV_ptr (A := B) (i := s4.next) (hBo _ hb42.lt)
   have hlowX : ∀ k, LA.lowV B (some (.pointer (some ⟨s1.next, k, some 6⟩))) = true := fun k => LA.lowV_ptr (A := B) (i := s1.next) (hBo _ ((ht34.keeps k4t).keeps kt2).lt)
   have hbq := hb42.keeps hsq
   have hyq := hy2.keeps hsq
   have hoq := ((ho4.keeps k4t).keeps kt2).keeps hsq
   have lq5 := Thing.loadO (((ht34.keeps k4t).keeps kt2).keeps hsq) hcl
   simp -implicitDefEqProofs (disch := omega) only [allW, allR, allL, allB, Nat.sub_self, Nat.add_one_sub_one, Nat.reduceSub, oneOf, evalAll, partsA, optA, Nat.reduceLT, Nat.reduceLeDiff, Nat.reduceEqDiff, Nat.reduceAdd, ↓reduceIte, hn, h1, h3, h5, h6, h7, h8, h9, df4, if0, if1, hlow7, hlowX, db_items hbq htl', hyq.self, lq5, hoq.self, valEq_int]
   refine (rcopyO hcp hlb _ o (Nat.le_refl _) _ (spare t2 1) cs hoq hso).mono ?_
   rintro _ t3 ⟨es5, rfl, ho3, kst3⟩
   have p3 := kst3.next
   have hel5 := ho3.len
   refine ⟨fun _ => LA.Stay.toA hBl (kst3.weaken (by omega)), ?_⟩
   obtain ⟨es, hes⟩ : ∃ es, es = Value.int .i64 n :: es5 := ⟨_, rfl⟩
   have hel : es.length = 6 := by rw [hes]; simp [hel5]
   have hesok : es.all okCell = true := by rw [hes, List.all_cons, ho3.ok]; rfl
   have hself6 : valEq (.agg es.toArray) (.agg es.toArray) = true := by rw [hes]; exact item_self _ ho3.self
   have hbI := bItem n hel5
   rw [← hes] at hbI
   simp -implicitDefEqProofs (disch := omega) only [allW, allR, allL, allB, Nat.sub_self, Nat.add_one_sub_one, Nat.reduceSub, oneOf, evalAll, partsA, optA, Nat.reduceLT, Nat.reduceLeDiff, Nat.reduceEqDiff, Nat.reduceAdd, ↓reduceIte, hn, h1, h3, h5, h6, h7, h8, h9, ho3.self, hbI, hself6, buildAgg1 (cs := es.toArray) Try.underlying27 szI zI plI rfl hel (by decide)]
   refine LB.smake_newSlice (base := t2.next) hel (by omega) (Nat.le_refl _) ?_
   intro bs t4 hbs hid kst4 hnx4' hot4'
   have kt4 : Stay t2.next t2 t4 := (hsq.trans (kst3.weaken (by omega))).trans kst4
   have p4 := kt4.next
   have hi4 : ItIs (FF y) t4 es (n, o) := by
    refine ⟨es5, hes, ?_⟩
    refine (ho3.turns (u := .pointer (some ⟨t2.next, 0, none⟩)) (Turns.ofPut hnx4' hot4') (fun j hj e => ?_)).mono (fun j hj => ?_)
    ·have e : some t2.next = some j := e
     injection e with e; omega
    ·rw [hFF]; exact ⟨by omega, fun h => h, fun e => by have := hy2.idlt _ e; omega⟩
   simp -implicitDefEqProofs (disch := omega) only [allW, allR, allL, allB, Nat.sub_self, Nat.add_one_sub_one, Nat.reduceSub, oneOf, evalAll, partsA, optA, Nat.reduceLT, Nat.reduceLeDiff, Nat.reduceEqDiff, Nat.reduceAdd, ↓reduceIte, hn, h1, h3, h5, h6, h7, h8, h9, hy2.self]
   refine LB.sstep_append Try.underlying27 Try.underlying27 (.inl ⟨_, rfl⟩) szI byI zI rfl (hy2.keeps kt4) hbs.sees.src hel (by decide) hesok (by omega) (by omega) (base := s8.next) hyF (by omega) (fun h => absurd rfl h) (fun j hj => by have := hBl j hj; omega) ?_
   intro yA t5 hy5 hFyA hut5 hor
   have p5 := hut5.next
   have hR4 := hR2.keeps rowedI kt4
   rw [hFF] at hR4 hi4
   have hR5 := hR4.grow rowedI hel hi4 hut5 hor
   rw [show (fun j => s8.next ≤ j ∧ ¬ (fun _ => False) j ∧ idOf yA ≠ some j) = FF yA by rw [hFF]] at hR5
   have hy5p : idOf yA ≠ some s4.next := fun e => by have := hFyA _ e; omega
   have hyp5 : idOf y ≠ some s4.next := fun e => by have := hyl _ e; omega
   simp -implicitDefEqProofs (disch := omega) only [allW, allR, allL, allB, Nat.sub_self, Nat.add_one_sub_one, Nat.reduceSub, oneOf, evalAll, partsA, optA, Nat.reduceLT, Nat.reduceLeDiff, Nat.reduceEqDiff, Nat.reduceAdd, ↓reduceIte, hn, h1, h3, h5, h6, h7, h8, h9, df4, hlow7]
   refine LB.sstep_storeN szIs (by decide) ((hb42.keeps kt4).turns hut5 hyp5) (off := 8) (c := 10) (by rw [db_len htl']) (vs := [yA]) hy5.sees.cell1 rfl (by rw [db_len htl']; exact Nat.le_refl _) (by simp [hy5.sees.okCell]) (fun h => absurd rfl h) ?_
   intro tA hbyA hnx6 hot6
   rw [dc_over htl'] at hbyA
   have hu6 : Turns (.pointer (some ⟨s4.next, 0, none⟩)) t5 tA := Turns.ofPut hnx6 hot6
   have hne6 : ∀ j, FF yA j -> idOf (.pointer (some ⟨s4.next, 0, none⟩)) ≠ some j := fun j hj e => by
    have e : some s4.next = some j := e
    injection e with e
    rw [hFF] at hj; have := hj.1; omega
   have hRyA := hR5.turns rowedI hu6 hne6
   have hyyA := (Own.at hy5 (m := (lx ++ [(n, o)]).length) (by rw [List.length_append]; rfl)).ofPut hnx6 hot6 hy5p
   have htuA : Turns (.pointer (some ⟨s4.next, 0, none⟩)) s8 tA := ⟨by omega, fun q hq hne => by rw [hot6 q (fun e => hne (by rw [e]; rfl)), hut5.get q (by omega) (fun e => by have := hyl _ e; omega), kt4.get q (by omega), htu2.get q hq hne]⟩
   have hxA : Thing tA t.next xs := ((Thing.keeps ht2' kt4).turns hut5 (fun e => by have := hy.idlt _ e; omega)).ofPut hnx6 hot6 (by omega)
   by_cases d3 : D.items[i].1 = n
   ·have hP := (refP_take (n := n) (o := o) (b := b0) hlt).trans ((congrArg (fun x => refS n o x D.items[i]) hx.symm).trans (hS.trans (if_pos d3)))
    simp -implicitDefEqProofs (disch := omega) only [allW, allR, allL, allB, Nat.sub_self, Nat.add_one_sub_one, Nat.reduceSub, oneOf, evalAll, partsA, optA, Nat.reduceLT, Nat.reduceLeDiff, Nat.reduceEqDiff, Nat.reduceAdd, ↓reduceIte, allW, allR, oneOf, evalAll, partsA, optA, Nat.reduceLT, Nat.reduceLeDiff, Nat.reduceEqDiff, Nat.reduceAdd, ↓reduceIte, undef, hn, h1, h3, h5, h6, h7, h8, h9, if0, l1 _ hxA, eq_true d3, wrapI]
    exact wround_next (D.items.length - (i + 1)) (by omega) ⟨i + 1, _, yA, _, rfl, by omega, hP.symm, hyyA, hRyA, hFyA, hbyA, htuA, by simp only [get_put, n_put, ↓reduceIte, Nat.reduceEqDiff, hn], by simp only [get_put, n_put, ↓reduceIte, Nat.reduceEqDiff, h1], by simp only [get_put, n_put, ↓reduceIte, Nat.reduceEqDiff, h3], by simp only [get_put, n_put, ↓reduceIte, Nat.reduceEqDiff, h5], by simp only [get_put, n_put, ↓reduceIte, Nat.reduceEqDiff, h6], by simp only [get_put, n_put, ↓reduceIte, Nat.reduceEqDiff, h7], by simp only [get_put, n_put, ↓reduceIte, Nat.reduceEqDiff, h8], by simp only [get_put, n_put, ↓reduceIte, Nat.reduceEqDiff]; rfl⟩
   simp -implicitDefEqProofs (disch := omega) only [allW, allR, allL, allB, Nat.sub_self, Nat.add_one_sub_one, Nat.reduceSub, oneOf, evalAll, partsA, optA, Nat.reduceLT, Nat.reduceLeDiff, Nat.reduceEqDiff, Nat.reduceAdd, ↓reduceIte, allW, allR, oneOf, evalAll, partsA, optA, Nat.reduceLT, Nat.reduceLeDiff, Nat.reduceEqDiff, Nat.reduceAdd, ↓reduceIte, undef, hn, h1, h3, h5, h6, h7, h8, h9, if0, l1 _ hxA, eq_false d3]
   have hroA := ((hro.keeps kt4).turns hut5 (fun j hj e => by have := hyl _ e; have := hj.2; omega)).ofPut hnx6 hot6 (fun h => by have := h.2; omega)
   have hS := hS.trans (if_neg d3)
   have hLA : (lx ++ [(n, o)]).length ≤ 1002 := by rw [List.length_append]; simp only [List.length_cons, List.length_nil]; omega
   rotate_left
   have hS : refS n o (false, lx) D.items[i] = (false, lx ++ [D.items[i]]) := if_neg (fun h => by have := h.2; omega)
   simp -implicitDefEqProofs (disch := omega) only [allW, allR, oneOf, evalAll, partsA, optA, Nat.reduceLT, Nat.reduceLeDiff, Nat.reduceEqDiff, Nat.reduceAdd, ↓reduceIte, undef, hn, h1, h3, h5, h6, h7, h8, h9, if0, l1 _ ht2', eq_false d2]
   obtain ⟨tA, rfl⟩ : ∃ tA, tA = t2 := ⟨_, rfl⟩
   obtain ⟨yA, rfl⟩ : ∃ yA, yA = y := ⟨_, rfl⟩
   have hyyA := hy2
   have hRyA := hR2
   have hFyA := hyF
   have hbyA := hb42
   have htuA := htu2
   have hxA := ht2'
   have hroA := hro
   have hLA : lx.length ≤ 1002 := by omega
   all_goals
    have hylA : ∀ j, idOf yA = some j -> s8.next ≤ j := hFyA
    have hpA := htuA.next
    have hP := (refP_take (n := n) (o := o) (b := b0) hlt).trans ((congrArg (fun x => refS n o x D.items[i]) hx.symm).trans hS)
    obtain ⟨B, hBe⟩ : ∃ B : Nat -> Bool, B = fun j => decide (j < tA.next) := ⟨_, rfl⟩
    have hBl : ∀ j, B j = true -> j < tA.next := by
     intro j h
     rw [hBe] at h
     exact of_decide_eq_true h
    have hBo : ∀ j, j < tA.next -> B j = true := fun j h => by rw [hBe]; exact decide_eq_true h
    refine LB.Drawn.looseK B hBl 1 1 (by kernel_rfl) (by kernel_rfl) ?_
    have hsq := Stay.spare tA 1
    have hnq : (spare tA 1).next = tA.next + 1 := spare_next _ _
    have hlow7 : ∀ k, LA.lowV B (some (.pointer (some ⟨s4.next, k, some 10⟩))) = true := fun k => LA.lowV_ptr (A := B) (i := s4.next) (hBo _ hbyA.lt)
    have hlowX : ∀ k, LA.lowV B (some (.pointer (some ⟨t.next, k, some 7⟩))) = true := fun k => LA.lowV_ptr (A := B) (i := t.next) (hBo _ hxA.lt)
    have hbq := hbyA.keeps hsq
    have hyq := hyyA.keeps hsq
    have hoq := hroA.keeps hsq
    simp -implicitDefEqProofs (disch := omega) only [allW, allR, allL, allB, Nat.sub_self, Nat.add_one_sub_one, Nat.reduceSub, oneOf, evalAll, partsA, optA, Nat.reduceLT, Nat.reduceLeDiff, Nat.reduceEqDiff, Nat.reduceAdd, ↓reduceIte, hn, h1, h3, h5, h6, h7, h8, h9, df4, if0, if1, hlow7, hlowX, db_items hbq htl', hyq.self, l1 _ (hxA.keeps hsq), l2 _ (hxA.keeps hsq), hoq.self, valEq_int]
    refine (rcopyO hcp hlb _ D.items[i].2 (Nat.le_refl _) _ (spare tA 1) r hoq (hs.items _ (List.getElem_mem hlt))).mono ?_
    rintro _ t3 ⟨es5, rfl, ho3, kst3⟩
    have p3 := kst3.next
    have hel5 := ho3.len
    refine ⟨fun _ => LA.Stay.toA hBl (kst3.weaken (by omega)), ?_⟩
    obtain ⟨es, hes⟩ : ∃ es, es = Value.int .i64 D.items[i].1 :: es5 := ⟨_, rfl⟩
    have hel : es.length = 6 := by rw [hes]; simp [hel5]
    have hesok : es.all okCell = true := by rw [hes, List.all_cons, ho3.ok]; rfl
    have hself6 : valEq (.agg es.toArray) (.agg es.toArray) = true := by rw [hes]; exact item_self _ ho3.self
    have hbI := bItem D.items[i].1 hel5
    rw [← hes] at hbI
    simp -implicitDefEqProofs (disch := omega) only [allW, allR, allL, allB, Nat.sub_self, Nat.add_one_sub_one, Nat.reduceSub, oneOf, evalAll, partsA, optA, Nat.reduceLT, Nat.reduceLeDiff, Nat.reduceEqDiff, Nat.reduceAdd, ↓reduceIte, hn, h1, h3, h5, h6, h7, h8, h9, ho3.self, hbI, hself6, buildAgg1 (cs := es.toArray) Try.underlying27 szI zI plI rfl hel (by decide)]
    refine LB.smake_newSlice (base := tA.next) hel (by omega) (Nat.le_refl _) ?_
    intro bs t4 hbs hid kst4 hnx4' hot4'
    have kt4 : Stay tA.next tA t4 := (hsq.trans (kst3.weaken (by omega))).trans kst4
    have p4 := kt4.next
    have hi4 : ItIs (FF yA) t4 es (D.items[i].1, D.items[i].2) := by
     refine ⟨es5, hes, ?_⟩
     refine (ho3.turns (u := .pointer (some ⟨tA.next, 0, none⟩)) (Turns.ofPut hnx4' hot4') (fun j hj e => ?_)).mono (fun j hj => ?_)
     ·have e : some tA.next = some j := e
      injection e with e; omega
     ·rw [hFF]; exact ⟨by omega, fun h => h, fun e => by have := hyyA.idlt _ e; omega⟩
    simp -implicitDefEqProofs (disch := omega) only [allW, allR, allL, allB, Nat.sub_self, Nat.add_one_sub_one, Nat.reduceSub, oneOf, evalAll, partsA, optA, Nat.reduceLT, Nat.reduceLeDiff, Nat.reduceEqDiff, Nat.reduceAdd, ↓reduceIte, hn, h1, h3, h5, h6, h7, h8, h9, hyyA.self]
    refine LB.sstep_append Try.underlying27 Try.underlying27 (.inl ⟨_, rfl⟩) szI byI zI rfl (hyyA.keeps kt4) hbs.sees.src hel (by decide) hesok (by omega) (by omega) (base := s8.next) hFyA (by omega) (fun h => absurd rfl h) (fun j hj => by have := hBl j hj; omega) ?_
    intro yB t5 hy5 hFyB hut5 hor
    have p5 := hut5.next
    have hR4 := hRyA.keeps rowedI kt4
    rw [hFF] at hR4 hi4
    have hR5 := hR4.grow rowedI hel hi4 hut5 hor
    rw [show (fun j => s8.next ≤ j ∧ ¬ (fun _ => False) j ∧ idOf yB ≠ some j) = FF yB by rw [hFF]] at hR5
    have hy5p : idOf yB ≠ some s4.next := fun e => by have := hFyB _ e; omega
    have hyp5 : idOf yA ≠ some s4.next := fun e => by have := hylA _ e; omega
    simp -implicitDefEqProofs (disch := omega) only [allW, allR, allL, allB, Nat.sub_self, Nat.add_one_sub_one, Nat.reduceSub, oneOf, evalAll, partsA, optA, Nat.reduceLT, Nat.reduceLeDiff, Nat.reduceEqDiff, Nat.reduceAdd, ↓reduceIte, hn, h1, h3, h5, h6, h7, h8, h9, df4, hlow7]
    refine LB.sstep_storeN szIs (by decide) ((hbyA.keeps kt4).turns hut5 hyp5) (off := 8) (c := 10) (by rw [db_len htl']) (vs := [yB]) hy5.sees.cell1 rfl (by rw [db_len htl']; exact Nat.le_refl _) (by simp [hy5.sees.okCell]) (fun h => absurd rfl h) ?_
    intro tB hbyB hnx6 hot6
    rw [dc_over htl'] at hbyB
    have hu6 : Turns (.pointer (some ⟨s4.next, 0, none⟩)) t5 tB := Turns.ofPut hnx6 hot6
    have hne6 : ∀ j, FF yB j -> idOf (.pointer (some ⟨s4.next, 0, none⟩)) ≠ some j := fun j hj e => by
     have e : some s4.next = some j := e
     injection e with e
     rw [hFF] at hj; have := hj.1; omega
    have hRyB := hR5.turns rowedI hu6 hne6
    have hyyB := (Own.at hy5 (List.length_append (bs := [(D.items[i].1, D.items[i].2)])).symm).ofPut hnx6 hot6 hy5p
    simp -implicitDefEqProofs (disch := omega) only [allW, allR, allL, allB, Nat.sub_self, Nat.add_one_sub_one, Nat.reduceSub, oneOf, evalAll, partsA, optA, Nat.reduceLT, Nat.reduceLeDiff, Nat.reduceEqDiff, Nat.reduceAdd, ↓reduceIte, allW, allR, oneOf, evalAll, partsA, optA, Nat.reduceLT, Nat.reduceLeDiff, Nat.reduceEqDiff, Nat.reduceAdd, ↓reduceIte, hn, h1, h3, h5, h6, h7, h8, h9, wrapI]
    exact wround_next (D.items.length - (i + 1)) (by omega) ⟨i + 1, _, yB, _, rfl, by omega, hP.symm, hyyB, hRyB, hFyB, hbyB, ⟨by omega, fun q hq hne => by rw [hot6 q (fun e => hne (by rw [e]; rfl)), hut5.get q (by omega) (fun e => by have := hylA _ e; omega), kt4.get q (by omega), htuA.get q hq hne]⟩, by simp only [get_put, n_put, ↓reduceIte, Nat.reduceEqDiff, hn], by simp only [get_put, n_put, ↓reduceIte, Nat.reduceEqDiff, h1], by simp only [get_put, n_put, ↓reduceIte, Nat.reduceEqDiff, h3], by simp only [get_put, n_put, ↓reduceIte, Nat.reduceEqDiff, h5], by simp only [get_put, n_put, ↓reduceIte, Nat.reduceEqDiff, h6], by simp only [get_put, n_put, ↓reduceIte, Nat.reduceEqDiff, h7], by simp only [get_put, n_put, ↓reduceIte, Nat.reduceEqDiff, h8], by simp only [get_put, n_put, ↓reduceIte, Nat.reduceEqDiff]; rfl⟩
  clear hstart hIN IN e hn h0 h1 h2 f ht7 hot7 hm6 hD6 hself6 hl6 hk6 htq hDq htq5 hDq5 hlow
  rintro z f t ⟨rfl, x, y, IC, hx, hy, hR, hyF, hb4, htu, hn, h1, h5, h6, h7, h8⟩
  have hnt := htu.next
  have hst : Stay s4.next s8 t := ⟨htu.next, fun j hj => htu.get j (by omega) (fun e => by
   have e : some s4.next = some j := e
   injection e with e; omega)⟩
  have k4t : Stay s4.next s4 t := k48.trans hst
  have hxl : x.2.length ≤ 1001 := by
   rw [hx]
   have := refP_len (n := n) (o := o) (b := b0) D.items
   omega
  rw [hb0] at hx
  have hP := refP_put (n := n) (o := o) hri hx
  have hyl : ∀ j, idOf y = some j -> s8.next ≤ j := hyF
  obtain ⟨bx, lx⟩ := x
  have hxl : lx.length ≤ 1001 := hxl
  cases bx
  rotate_left
  have hP : lx = (setD n o D).items := hP
  simp -implicitDefEqProofs (disch := omega) only [allW, allR, oneOf, evalAll, partsA, optA, Nat.reduceLT, Nat.reduceLeDiff, Nat.reduceEqDiff, Nat.reduceAdd, ↓reduceIte, undef, hn, h1, h5, h6, h7, h8]
  obtain ⟨tA, rfl⟩ : ∃ tA, tA = t := ⟨_, rfl⟩
  obtain ⟨yA, rfl⟩ : ∃ yA, yA = y := ⟨_, rfl⟩
  have hyyA := hy
  have hRyA := hR
  have hFyA := hyF
  have hbyA := hb4
  have htuA := htu
  rotate_left
  have hP : lx ++ [(n, o)] = (setD n o D).items := hP
  simp -implicitDefEqProofs (disch := omega) only [allW, allR, oneOf, evalAll, partsA, optA, Nat.reduceLT, Nat.reduceLeDiff, Nat.reduceEqDiff, Nat.reduceAdd, ↓reduceIte, undef, hn, h1, h5, h6, h7, h8]
  obtain ⟨B, hBe⟩ : ∃ B : Nat -> Bool, B = fun j => decide (j < t.next) := ⟨_, rfl⟩
  have hBl : ∀ j, B j = true -> j < t.next := by
   intro j h
   rw [hBe] at h
   exact of_decide_eq_true h
  have hBo : ∀ j, j < t.next -> B j = true := fun j h => by rw [hBe]; exact decide_eq_true h
  refine LB.Drawn.looseK B hBl 1 1 (by kernel_rfl) (by kernel_rfl) ?_
  have hsq := Stay.spare t 1
  have hnq : (spare t 1).next = t.next + 1 := spare_next _ _
  have hlow7 : ∀ k, LA.lowV B (some (.pointer (some ⟨s4.next, k, some 10⟩))) = true := fun k => LA.lowV_ptr (A := B) (i := s4.next) (hBo _ hb4.lt)
  have hlowX : ∀ k, LA.lowV B (some (.pointer (some ⟨s1.next, k, some 6⟩))) = true := fun k => LA.lowV_ptr (A := B) (i := s1.next) (hBo _ (ht34.keeps k4t).lt)
  have hbq := hb4.keeps hsq
  have hyq := hy.keeps hsq
  have hoq := (ho4.keeps k4t).keeps hsq
  have lq5 := Thing.loadO ((ht34.keeps k4t).keeps hsq) hcl
  simp -implicitDefEqProofs (disch := omega) only [allW, allR, allL, allB, Nat.sub_self, Nat.add_one_sub_one, Nat.reduceSub, oneOf, evalAll, partsA, optA, Nat.reduceLT, Nat.reduceLeDiff, Nat.reduceEqDiff, Nat.reduceAdd, ↓reduceIte, hn, h1, h5, h6, h7, h8, df4, if0, if1, hlow7, hlowX, db_items hbq htl', hyq.self, lq5, hoq.self, valEq_int]
  refine (rcopyO hcp hlb _ o (Nat.le_refl _) _ (spare t 1) cs hoq hso).mono ?_
  rintro _ t3 ⟨es5, rfl, ho3, kst3⟩
  have p3 := kst3.next
  have hel5 := ho3.len
  refine ⟨fun _ => LA.Stay.toA hBl (kst3.weaken (by omega)), ?_⟩
  obtain ⟨es, hes⟩ : ∃ es, es = Value.int .i64 n :: es5 := ⟨_, rfl⟩
  have hel : es.length = 6 := by rw [hes]; simp [hel5]
  have hesok : es.all okCell = true := by rw [hes, List.all_cons, ho3.ok]; rfl
  have hself6 : valEq (.agg es.toArray) (.agg es.toArray) = true := by rw [hes]; exact item_self _ ho3.self
  have hbI := bItem n hel5
  rw [← hes] at hbI
  simp -implicitDefEqProofs (disch := omega) only [allW, allR, allL, allB, Nat.sub_self, Nat.add_one_sub_one, Nat.reduceSub, oneOf, evalAll, partsA, optA, Nat.reduceLT, Nat.reduceLeDiff, Nat.reduceEqDiff, Nat.reduceAdd, ↓reduceIte, hn, h1, h5, h6, h7, h8, ho3.self, hbI, hself6, buildAgg1 (cs := es.toArray) Try.underlying27 szI zI plI rfl hel (by decide)]
  refine LB.smake_newSlice (base := t.next) hel (by omega) (Nat.le_refl _) ?_
  intro bs t4 hbs hid kst4 hnx4' hot4'
  have kt4 : Stay t.next t t4 := (hsq.trans (kst3.weaken (by omega))).trans kst4
  have p4 := kt4.next
  have hi4 : ItIs (FF y) t4 es (n, o) := by
   refine ⟨es5, hes, ?_⟩
   refine (ho3.turns (u := .pointer (some ⟨t.next, 0, none⟩)) (Turns.ofPut hnx4' hot4') (fun j hj e => ?_)).mono (fun j hj => ?_)
   ·have e : some t.next = some j := e
    injection e with e; omega
   ·rw [hFF]; exact ⟨by omega, fun h => h, fun e => by have := hy.idlt _ e; omega⟩
  simp -implicitDefEqProofs (disch := omega) only [allW, allR, allL, allB, Nat.sub_self, Nat.add_one_sub_one, Nat.reduceSub, oneOf, evalAll, partsA, optA, Nat.reduceLT, Nat.reduceLeDiff, Nat.reduceEqDiff, Nat.reduceAdd, ↓reduceIte, hn, h1, h5, h6, h7, h8, hy.self]
  refine LB.sstep_append Try.underlying27 Try.underlying27 (.inl ⟨_, rfl⟩) szI byI zI rfl (hy.keeps kt4) hbs.sees.src hel (by decide) hesok (by omega) (by omega) (base := s8.next) hyF (by omega) (fun h => absurd rfl h) (fun j hj => by have := hBl j hj; omega) ?_
  intro yA t5 hy5 hFyA hut5 hor
  have p5 := hut5.next
  have hR4 := hR.keeps rowedI kt4
  rw [hFF] at hR4 hi4
  have hR5 := hR4.grow rowedI hel hi4 hut5 hor
  rw [show (fun j => s8.next ≤ j ∧ ¬ (fun _ => False) j ∧ idOf yA ≠ some j) = FF yA by rw [hFF]] at hR5
  have hy5p : idOf yA ≠ some s4.next := fun e => by have := hFyA _ e; omega
  have hyp5 : idOf y ≠ some s4.next := fun e => by have := hyl _ e; omega
  simp -implicitDefEqProofs (disch := omega) only [allW, allR, allL, allB, Nat.sub_self, Nat.add_one_sub_one, Nat.reduceSub, oneOf, evalAll, partsA, optA, Nat.reduceLT, Nat.reduceLeDiff, Nat.reduceEqDiff, Nat.reduceAdd, ↓reduceIte, hn, h1, h5, h6, h7, h8, df4, hlow7]
  refine LB.sstep_storeN szIs (by decide) ((hb4.keeps kt4).turns hut5 hyp5) (off := 8) (c := 10) (by rw [db_len htl']) (vs := [yA]) hy5.sees.cell1 rfl (by rw [db_len htl']; exact Nat.le_refl _) (by simp [hy5.sees.okCell]) (fun h => absurd rfl h) ?_
  intro tA hbyA hnx6 hot6
  rw [dc_over htl'] at hbyA
  have hu6 : Turns (.pointer (some ⟨s4.next, 0, none⟩)) t5 tA := Turns.ofPut hnx6 hot6
  have hne6 : ∀ j, FF yA j -> idOf (.pointer (some ⟨s4.next, 0, none⟩)) ≠ some j := fun j hj e => by
   have e : some s4.next = some j := e
   injection e with e
   rw [hFF] at hj; have := hj.1; omega
  have hRyA := hR5.turns rowedI hu6 hne6
  have hyyA := (Own.at hy5 (m := (lx ++ [(n, o)]).length) (by rw [List.length_append]; rfl)).ofPut hnx6 hot6 hy5p
  have htuA : Turns (.pointer (some ⟨s4.next, 0, none⟩)) s8 tA := ⟨by omega, fun q hq hne => by rw [hot6 q (fun e => hne (by rw [e]; rfl)), hut5.get q (by omega) (fun e => by have := hyl _ e; omega), kt4.get q (by omega), htu.get q hq hne]⟩
  all_goals
   have hylA : ∀ j, idOf yA = some j -> s8.next ≤ j := hFyA
   have hpA := htuA.next
   have hstA : Stay s4.next s8 tA := ⟨htuA.next, fun j hj => htuA.get j (by omega) (fun e => by
    have e : some s4.next = some j := e
    injection e with e; omega)⟩
   have k4A : Stay s4.next s4 tA := k48.trans hstA
   have hns : ∀ j, s4.next + 1 ≤ j ∧ j < s8.next -> idOf (.pointer (some ⟨s4.next, 0, none⟩)) ≠ some j := fun j hj e => by
    have e : some s4.next = some j := e
    injection e with e; omega
   have hmt : Own tA 1 mv' D.mark.length (ofBytes D.mark) := hm8.turns htuA (fun j hj => hns j (hmi j hj))
   have hott := ho8.turns htuA hns
   rw [hP] at hyyA hRyA
   obtain ⟨E, hE⟩ : ∃ E : Dc, E = setD n o D := ⟨_, rfl⟩
   have hE2 : E = { D with items := (setD n o D).items } := by rw [hE]; unfold setD; split <;> rfl
   obtain ⟨NC, hDA⟩ : ∃ NC, DocIs (fun j => s4.next + 1 ≤ j) tA mv' tc' yA NC E := by
    rw [hE2]
    exact ⟨_, hmt.sees, Foot.of_id (fun j hj => by have := hmi j hj; omega), hott.mono (fun j hj => hj.1), hyyA.sees, Foot.of_id (fun j hj => by have := hylA j hj; omega), hRyA.mono rowedI (fun j hj => by rw [hFF] at hj; have := hj.1; omega)⟩
   have hbE : Thing tA s4.next (docC E mv' tc' yA) := by rw [hE2]; exact hbyA
   have hDl := docC_len hDA
   have hDk := docC_ok hDA
   simp -implicitDefEqProofs (disch := omega) only [allW, allR, allL, allB, Nat.sub_self, Nat.add_one_sub_one, Nat.reduceSub, oneOf, evalAll, partsA, optA, Nat.reduceLT, Nat.reduceLeDiff, Nat.reduceEqDiff, Nat.reduceAdd, ↓reduceIte, allW, allR, oneOf, evalAll, partsA, optA, Nat.reduceLT, Nat.reduceLeDiff, Nat.reduceEqDiff, Nat.reduceAdd, ↓reduceIte, hn, h1, h5, h6, h7, h8, db_all hbE htl']
   refine wstep_storeAll szD (by decide) (ht4.keeps k4A) rfl rfl hDl hDk ?_
   intro t7 ht7 hnx7 hot7
   have ht7 : Thing t7 s3.next (docC E mv' tc' yA) := ht7
   simp -implicitDefEqProofs (disch := omega) only [allW, allR, wfn_ret, wfn_normal, oneOf, evalAll, partsA, optA, Nat.reduceLT, Nat.reduceLeDiff, Nat.reduceEqDiff, Nat.reduceAdd, ↓reduceIte, hn, h6, db_all ht7 htl', resultsA_cell, Try.results33]
   rw [← hE]
   have hu7 : Turns (.pointer (some ⟨s3.next, 0, none⟩)) tA t7 := Turns.ofPut hnx7 hot7
   exact ⟨mv', tc', yA, _, rfl, (hDA.turns hu7 (fun j hj e => by
    have e : some s3.next = some j := e
    injection e with e; omega)).mono (fun j hj => by omega), (k04.trans (k4A.weaken (by omega))).trans ⟨by omega, fun j hj => by rw [hot7 j (by omega)]⟩⟩
end Go.Proofs.Ythlbahnfimigcaa
