import Derived.Test.YthlbahnfimigcaaCosK
import Derived.Test.YthlbahnfimigcaaObjT
import Derived.Test.YthlbahnfimigcaaCutW
set_option linter.unusedSimpArgs false
set_option linter.unusedVariables false
set_option maxRecDepth 100000
namespace Go.Cl
theorem wasks_cut {P : Program} {all r : List Oper} {o : Oper} {f : AFr} {s : ASt} {Q : AFr -> Prop} {b : Bool} (R : AFr -> Prop) (h : wasks P all o r f s R b) (k : ∀ f, R f -> Q f) : wasks P all o r f s Q b := by
 cases b with
 | false => exact wput_mono h fun _ h => wquiet_mono h k
 | true =>
  simp only [wasks] at h ⊢
  unfold wlook at h ⊢
  split at h
  ·exact ⟨h.1, wput_mono h.2 fun _ h => wquiet_mono h k⟩
  ·exact h.elim
end Go.Cl
namespace Go.Proofs.Ythlbahnfimigcaa
open Go.Cl Go.Lib
def OrNew (F : Nat -> Prop) (n : Nat) (j : Nat) : Prop := (F j ∧ j < n) ∨ n ≤ j
def WithR (s : ASt) (F : Nat -> Prop) (d : List (List UInt8 × O)) (e : List UInt8 × O) (v : Value) (s' : ASt) : Prop := ∃ LC, Own s' 6 v (putE d e).length LC ∧ Fresh s.next v ∧ Stay s.next s s' ∧ ORows EntIs 6 (fun j => OrNew F s.next j ∧ idOf v ≠ some j) s' (putE d e) LC
set_option maxHeartbeats 4000000 in
theorem with_any {lib : Prims} (hl : lib.at 52 = none) (hlc : lib.at 53 = none) (hl1 : lib.at 44 = none)
  (F : Nat -> Prop) (s : ASt) (x : Value) (D : List (List UInt8 × O)) (lx : List Value) (hx : Sees s 6 x D.length lx) (hD : ORows EntIs 6 F s D lx) (hn4 : D.length ≤ 500000) (e : List UInt8 × O) (ce : List Value) (F2 : Nat -> Prop) (he : EntIs F2 s ce e) (hsm : Small e.2) :
  Runs Try.prog lib 52 [x, .agg ce.toArray] s (WithR s F D e) := by
 obtain ⟨re, rfl, hre, hrk⟩ := he
 have qe := hre.len
 refine Runs.enter 66 Try.func52 rfl hl rfl rfl ?_
 intro f hn hf
 have h0 : f.get 0 = x := hf 0
 have h1 : f.get 1 = .agg (.string ⟨e.1.toArray⟩ :: re).toArray := hf 1
 clear hf
 simp -implicitDefEqProofs (disch := omega) only [allW, allR, oneOf, evalAll, partsA, optA, Nat.reduceLT, Nat.reduceLeDiff, Nat.reduceEqDiff, Nat.reduceAdd, ↓reduceIte, hn, h0, h1]
 refine wstep_newPtr ?_
 intro s1 ht1 hst1 hnx1
 have ht1 : Thing s1 s.next (.string ⟨e.1.toArray⟩ :: re) := ht1
 obtain ⟨ek, eo⟩ := e
 cases eo with
 | mk ekd en eb el ed =>
 obtain ⟨xb, xl, xd, xlc, xdc, hrr, -⟩ := hre.parts
 have l10 : ∀ t, Stay s1.next s1 t -> loadA Try.prog t 3 (.pointer (some ⟨s.next, 1, some 7⟩)) = some (.int .i64 ekd) := fun t h => by
  have := (ht1.keeps h).load (P := Try.prog) agInt (off := 1) (c := 7) (by simp [qe]) (by simp [qe])
  rw [this, hrr]; rfl
 simp -implicitDefEqProofs (disch := omega) only [allW, allR, oneOf, evalAll, partsA, optA, Nat.reduceLT, Nat.reduceLeDiff, Nat.reduceEqDiff, Nat.reduceAdd, ↓reduceIte, hn, h0, h1, List.length_cons, qe, ofE1, of0, l10 s1 (Stay.refl _ _)]
 obtain ⟨e, he⟩ : ∃ e, e = (ek, O.mk ekd en eb el ed) := ⟨_, rfl⟩
 rw [← he]
 obtain ⟨FF, hFF⟩ : ∃ FF : Value -> Nat -> Prop, FF = fun v j => 0 ≤ j ∧ ¬ (fun j => ¬ OrNew F s.next j) j ∧ idOf v ≠ some j := ⟨_, rfl⟩
 have hstart : goW e D (decide (ekd = 0)) = putE D e := by rw [← goW_start, he]; rfl
 have hre : OIs F2 s re e.2 := by rw [he]; exact hre
 have hsm : Small e.2 := by rw [he]; exact hsm
 have hrk : e.1.length ≤ 9223372036854775807 := by rw [he]; exact hrk
 have ht1 : Thing s1 s.next (.string ⟨e.1.toArray⟩ :: re) := by rw [he]; exact ht1
 clear hrr l10 h1 he
 have hn1 := hst1.next
 refine Comes.loopOut (fun z f t => ∃ (i : Nat) (y : Value) (LY : List Value) (E : List (List UInt8 × O)) (put : Bool), z = D.length - i ∧ i ≤ D.length ∧ E ++ goW e (D.drop i) put = putE D e ∧ E.length + (if put then 0 else 1) ≤ i + 1 ∧ Own t 6 y E.length LY ∧ ORows EntIs 6 (FF y) t E LY ∧ Fresh s1.next y ∧ Stay s1.next s1 t ∧ f.n = 66 ∧ f.get 0 = x ∧ f.get 3 = .pointer (some ⟨s.next, 0, some 7⟩) ∧ f.get 5 = y ∧ f.get 6 = .bool put ∧ f.get 7 = .int .i64 (i : Nat))
  (fun z f t => z = .exit 0 ∧ ∃ (y : Value) (LY : List Value) (E : List (List UInt8 × O)) (put : Bool), E ++ (if put then [] else [e]) = putE D e ∧ E.length + (if put then 0 else 1) ≤ D.length + 1 ∧ Own t 6 y E.length LY ∧ ORows EntIs 6 (FF y) t E LY ∧ Fresh s1.next y ∧ Stay s1.next s1 t ∧ f.n = 66 ∧ f.get 3 = .pointer (some ⟨s.next, 0, some 7⟩) ∧ f.get 5 = y ∧ f.get 6 = .bool put)
  ⟨0, .slice none 0 0, [], [], decide (ekd = 0), rfl, by omega, by rw [List.drop_zero, List.nil_append]; exact hstart, by split <;> simp, .nil, ORows.nil, Fresh.nil _, Stay.refl _ _, by simp only [get_put, n_put, ↓reduceIte, Nat.reduceEqDiff, hn], by simp only [get_put, n_put, ↓reduceIte, Nat.reduceEqDiff, h0], by simp only [get_put, n_put, ↓reduceIte, Nat.reduceEqDiff], by simp only [get_put, n_put, ↓reduceIte, Nat.reduceEqDiff], by simp only [get_put, n_put, ↓reduceIte, Nat.reduceEqDiff], by simp only [get_put, n_put, ↓reduceIte, Nat.reduceEqDiff]; rfl⟩ ?_ ?_
 ·clear hn h0 f hstart
  rintro Q hQ z f t ⟨i, y, LY, E, put, rfl, hi, hE, hEn, hy, hyr, hyF, hst1s, hn, h0, h3, h5, h6, h7⟩
  have hst : Stay s.next s t := hst1.trans (hst1s.weaken hn1)
  have hxt := hx.keeps hst
  have htt := ht1.keeps hst1s
  by_cases hlt : i < D.length
  rotate_left
  ·obtain rfl : i = D.length := by omega
   rw [List.drop_length] at hE
   have d1 : ¬ ((D.length : Nat) : Int) < ((D.length : Nat) : Int) := by omega
   simp -implicitDefEqProofs (disch := omega) only [allW, allR, oneOf, evalAll, partsA, optA, Nat.reduceLT, Nat.reduceLeDiff, Nat.reduceEqDiff, Nat.reduceAdd, ↓reduceIte, hn, h0, h3, h5, h6, h7, hxt.lenA Try.underlying24, eq_false d1]
   exact hQ _ _ _ ⟨rfl, y, LY, E, put, hE, hEn, hy, hyr, hyF, hst1s, by simp only [get_put, n_put, ↓reduceIte, Nat.reduceEqDiff, hn], by simp only [get_put, n_put, ↓reduceIte, Nat.reduceEqDiff, h3], by simp only [get_put, n_put, ↓reduceIte, Nat.reduceEqDiff, h5], by simp only [get_put, n_put, ↓reduceIte, Nat.reduceEqDiff, h6]⟩
  have d1 : (i : Int) < (D.length : Int) := by omega
  have hix := hxt.indexAddr (P := Try.prog) (k := .i64) (x := (i : Int)) Try.underlying24 szE (by omega) (by omega)
  rw [Int.toNat_natCast] at hix
  obtain ⟨q0, q1⟩ := efE hxt hlt
  obtain ⟨r, hr1, hr2, hr3⟩ := hD.row i hlt
  obtain ⟨hk6, hv6⟩ := chunk6 hr1
  have hlk := hxt.loadField (P := Try.prog) agStr hlt (j := 0) (by omega)
  rw [Nat.add_zero, hk6] at hlk
  have lk0 : loadA Try.prog t 9 (.pointer (some ⟨s.next, 0, some 7⟩)) = some (.string ⟨e.1.toArray⟩) := by
   have := htt.load (P := Try.prog) agStr (off := 0) (c := 7) (by simp [qe]) (by simp)
   rw [this]; rfl
  simp -implicitDefEqProofs (disch := omega) only [allW, allR, oneOf, evalAll, partsA, optA, Nat.reduceLT, Nat.reduceLeDiff, Nat.reduceEqDiff, Nat.reduceAdd, ↓reduceIte, hn, h0, h3, h5, h6, h7, hxt.lenA Try.underlying24, eq_true d1]
  refine wasks_cut (fun f' => f'.n = 66 ∧ f'.get 0 = x ∧ f'.get 3 = .pointer (some ⟨s.next, 0, some 7⟩) ∧ f'.get 5 = y ∧ f'.get 6 = .bool put ∧ f'.get 7 = .int .i64 (i : Nat) ∧ f'.get 29 = .bool (!put && !(lessB D[i].1 e.1))) ?_ ?_
  ·cases put with
   | true =>
    simp -implicitDefEqProofs (disch := omega) only [allW, allR, oneOf, evalAll, partsA, optA, Nat.reduceLT, Nat.reduceLeDiff, Nat.reduceEqDiff, Nat.reduceAdd, ↓reduceIte, hn, h0, h3, h5, h6, h7, Bool.not_true, Bool.false_and]
   | false =>
    simp -implicitDefEqProofs (disch := omega) only [allW, allR, oneOf, evalAll, partsA, optA, Nat.reduceLT, Nat.reduceLeDiff, Nat.reduceEqDiff, Nat.reduceAdd, ↓reduceIte, hn, h0, h3, h5, h6, h7, Bool.not_false, ofE0, lk0, hxt.self, hix, q0, valEq_plus, valEq_string, valEq_elemPtr, hlk, str_leq, lessB_total e.1 D[i].1]
  clear hn h0 h3 h5 h6 h7 f
  rintro f ⟨hn, h0, h3, h5, h6, h7, h29⟩
  simp -implicitDefEqProofs (disch := omega) only [allW, allR, oneOf, evalAll, partsA, optA, Nat.reduceLT, Nat.reduceLeDiff, Nat.reduceEqDiff, Nat.reduceAdd, ↓reduceIte, hn, h29]
  obtain ⟨E1, hE1⟩ : ∃ E1, E1 = E ++ (if !put && !(lessB D[i].1 e.1) then [e] else []) := ⟨_, rfl⟩
  obtain ⟨put1, hput1⟩ : ∃ put1, put1 = (put || !(lessB D[i].1 e.1)) := ⟨_, rfl⟩
  have hE1n : E1.length + (if put1 then 0 else 1) ≤ i + 1 := by
   rw [hE1, hput1, List.length_append]
   cases put
   ·cases lessB D[i].1 e.1 <;> simp_all
   ·simpa using hEn
  rw [goW_step hlt, ← List.append_assoc, ← List.append_assoc, ← hE1, ← hput1] at hE
  refine wif_cutJ (fun f' t' => ∃ (y : Value) (LY : List Value), Own t' 6 y E1.length LY ∧ ORows EntIs 6 (FF y) t' E1 LY ∧ Fresh s1.next y ∧ Stay s1.next s1 t' ∧ f'.n = 66 ∧ f'.get 0 = x ∧ f'.get 3 = .pointer (some ⟨s.next, 0, some 7⟩) ∧ f'.get 5 = y ∧ f'.get 6 = .bool put1 ∧ f'.get 7 = .int .i64 (i : Nat)) ?_ ?_
  ·intro Q' hQ'
   refine wif_cases (fun hb => ?_) (fun hb => ?_)
   ·rw [if_pos hb] at hE1
    have hp1 : put1 = true := by rw [hput1]; simp at hb; simp [hb]
    simp -implicitDefEqProofs (disch := omega) only [allW, allR, oneOf, evalAll, partsA, optA, Nat.reduceLT, Nat.reduceLeDiff, Nat.reduceEqDiff, Nat.reduceAdd, ↓reduceIte, hn, h0, h3, h5, h6, h7]
    obtain ⟨A, hA⟩ : ∃ A : Nat -> Bool, A = fun j => decide (j < t.next) := ⟨_, rfl⟩
    have hAl : ∀ j, A j = true -> j < t.next := by
     intro j h
     rw [hA] at h
     exact of_decide_eq_true h
    have hAo : ∀ j, j < t.next -> A j = true := fun j h => by rw [hA]; exact decide_eq_true h
    refine LB.Drawn.looseK A hAl 1 1 (by kernel_rfl) (by kernel_rfl) ?_
    have hsp := Stay.spare t 1
    have hnT : (spare t 1).next = t.next + 1 := spare_next _ _
    have htb := htt.keeps hsp
    have hlow : ∀ k, LA.lowV A (some (.pointer (some ⟨s.next, k, some 7⟩))) = true := fun k => LA.lowV_ptr (A := A) (i := s.next) (hAo _ htt.lt)
    have lk : loadA Try.prog (spare t 1) 9 (.pointer (some ⟨s.next, 0, some 7⟩)) = some (.string ⟨e.1.toArray⟩) := by
     have := htb.load (P := Try.prog) agStr (off := 0) (c := 7) (by simp [qe]) (by simp)
     rw [this]; rfl
    have lo : loadA Try.prog (spare t 1) 26 (.pointer (some ⟨s.next, 1, some 7⟩)) = some (.agg re.toArray) := by
     have := Thing.loadMid (P := Try.prog) agO szO htb (off := 1) (c := 7) (by simp [qe]) (by simp [qe])
     rw [this, List.drop_succ_cons, List.drop_zero, List.take_of_length_le (by omega)]
    have hstS : Stay s.next s (spare t 1) := hst.trans (hsp.weaken hst.next)
    have hoi := hre.keeps hstS
    simp -implicitDefEqProofs (disch := omega) only [allW, allR, allL, allB, Nat.sub_self, Nat.add_one_sub_one, Nat.reduceSub, oneOf, evalAll, partsA, optA, Nat.reduceLT, Nat.reduceLeDiff, Nat.reduceEqDiff, Nat.reduceAdd, ↓reduceIte, hn, h0, h3, h5, h6, h7, ofE0, ofE1, hlow, lk, lo, hy.self, hoi.self, valEq_string]
    refine (rcopyO hlc hl1 _ e.2 (Nat.le_refl _) F2 (spare t 1) _ hoi hsm).mono ?_
    rintro _ s7 ⟨cs7, rfl, ho7, hst7⟩
    have hn7 := hst7.next
    refine ⟨fun _ => LA.Stay.toA hAl (hst7.weaken (by omega)), ?_⟩
    have hl7 := ho7.len
    obtain ⟨es, hes⟩ : ∃ es, es = Value.string ⟨e.1.toArray⟩ :: cs7 := ⟨_, rfl⟩
    have hel : es.length = 6 := by rw [hes]; simp [hl7]
    have hself6 : valEq (.agg es.toArray) (.agg es.toArray) = true := by
     have := ho7.self
     rw [hes]
     match cs7, hl7, this with
     | [a, b, c, d, e], _, this =>
      simp [valEq, valEqL] at this ⊢
      exact ⟨by simp [valEq1], this⟩
    have hbE := bE e.1 hl7
    rw [← hes] at hbE
    simp -implicitDefEqProofs (disch := omega) only [allW, allR, allL, allB, Nat.sub_self, Nat.add_one_sub_one, Nat.reduceSub, oneOf, evalAll, partsA, optA, Nat.reduceLT, Nat.reduceLeDiff, Nat.reduceEqDiff, Nat.reduceAdd, ↓reduceIte, hn, h0, h3, h5, h6, h7, ho7.self, hbE, hself6, buildAgg1 (cs := es.toArray) Try.underlying24 szE zE plE rfl hel (by decide)]
    refine LB.smake_newSlice (base := t.next) hel (by omega) (Nat.le_refl _) ?_
    intro bs s8 hbs hid hst8 hnx8 hot8
    have hst68 : Stay t.next t s8 := (hsp.trans (hst7.weaken (by omega))).trans hst8
    have hn8 := hst68.next
    have hns := hst.next
    have ho8 : EntIs (FF y) s8 es e := by
     refine ⟨cs7, hes, (ho7.turns (u := .pointer (some ⟨t.next, 0, none⟩)) (Turns.ofPut hnx8 hot8) (fun j hj e => ?_)).mono (fun j hj => ?_), hrk⟩
     ·have e : some t.next = some j := e
      injection e with e; omega
     ·rw [hFF]; exact ⟨Nat.zero_le _, fun h => h (.inr (by omega)), fun e => by have := hy.idlt _ e; omega⟩
    have hesok : es.all okCell = true := by rw [hes, List.all_cons, ho7.ok]; rfl
    simp -implicitDefEqProofs (disch := omega) only [allW, allR, allL, allB, Nat.sub_self, Nat.add_one_sub_one, Nat.reduceSub, oneOf, evalAll, partsA, optA, Nat.reduceLT, Nat.reduceLeDiff, Nat.reduceEqDiff, Nat.reduceAdd, ↓reduceIte, hn, h0, h3, h5, h6, h7, hy.self]
    refine LB.sstep_append Try.underlying24 Try.underlying24 (.inl ⟨_, rfl⟩) szE byE zE rfl (hy.keeps hst68) hbs.sees.src hel (by decide) hesok (by omega) (by omega) (base := s1.next) hyF (by omega) (fun h => absurd rfl h) (fun j hj => by have := hAl j hj; omega) ?_
    intro w' s9 hw9 hF9 hut9 hor
    have hR8 := hyr.keeps rowedE hst68
    rw [hFF] at hR8 ho8
    have hR9 := hR8.grow rowedE hel ho8 hut9 hor
    rw [show (fun j => 0 ≤ j ∧ ¬ (fun j => ¬ OrNew F s.next j) j ∧ idOf w' ≠ some j) = FF w' by rw [hFF]] at hR9
    have hst9 : Stay s1.next s1 s9 := (hst1s.trans (hst68.weaken hst1s.next)).trans (hut9.keeps hyF (by have := hst1s.next; omega))
    simp -implicitDefEqProofs (disch := omega) only [allW, allR, allL, allB, Nat.sub_self, Nat.add_one_sub_one, Nat.reduceSub, oneOf, evalAll, partsA, optA, Nat.reduceLT, Nat.reduceLeDiff, Nat.reduceEqDiff, Nat.reduceAdd, ↓reduceIte, hn, h0, h3, h5, h6, h7, hw9.self]
    exact hQ' _ _ ⟨w', _, by rw [hE1, List.length_append]; exact hw9, by rw [hE1]; exact hR9, hF9, hst9, by simp only [get_put, n_put, ↓reduceIte, Nat.reduceEqDiff, hn], by simp only [get_put, n_put, ↓reduceIte, Nat.reduceEqDiff, h0], by simp only [get_put, n_put, ↓reduceIte, Nat.reduceEqDiff, h3], by simp only [get_put, n_put, ↓reduceIte, Nat.reduceEqDiff], by simp only [get_put, n_put, ↓reduceIte, Nat.reduceEqDiff, hp1], by simp only [get_put, n_put, ↓reduceIte, Nat.reduceEqDiff, h7]⟩
   ·rw [hb, if_neg (by decide), List.append_nil] at hE1
    have hp1 : put1 = put := by
     rw [hput1]
     cases put
     ·simp at hb; simp [hb]
     ·rfl
    simp -implicitDefEqProofs (disch := omega) only [allW, allR, oneOf, evalAll, partsA, optA, Nat.reduceLT, Nat.reduceLeDiff, Nat.reduceEqDiff, Nat.reduceAdd, ↓reduceIte, hn, h0, h3, h5, h6, h7]
    exact hQ' _ _ ⟨y, LY, by rw [hE1]; exact hy, by rw [hE1]; exact hyr, hyF, hst1s, by simp only [get_put, n_put, ↓reduceIte, Nat.reduceEqDiff, hn], by simp only [get_put, n_put, ↓reduceIte, Nat.reduceEqDiff, h0], by simp only [get_put, n_put, ↓reduceIte, Nat.reduceEqDiff, h3], by simp only [get_put, n_put, ↓reduceIte, Nat.reduceEqDiff, h5], by simp only [get_put, n_put, ↓reduceIte, Nat.reduceEqDiff, h6, hp1], by simp only [get_put, n_put, ↓reduceIte, Nat.reduceEqDiff, h7]⟩
  clear hn h0 h3 h5 h6 h7 h29 f hy hyr hyF hst hst1s hxt htt hix q0 q1 hlk lk0 hE1 hput1 y LY E put hEn t
  rintro f t ⟨y, LY, hy, hyr, hyF, hst1s, hn, h0, h3, h5, h6, h7⟩
  have hst : Stay s.next s t := hst1.trans (hst1s.weaken hn1)
  have hxt := hx.keeps hst
  have htt := ht1.keeps hst1s
  have hix := hxt.indexAddr (P := Try.prog) (k := .i64) (x := (i : Int)) Try.underlying24 szE (by omega) (by omega)
  rw [Int.toNat_natCast] at hix
  obtain ⟨q0, q1⟩ := efE hxt hlt
  have hlk := hxt.loadField (P := Try.prog) agStr hlt (j := 0) (by omega)
  rw [Nat.add_zero, hk6] at hlk
  have hll := hxt.loadAgg (P := Try.prog) agE szE hlt
  rw [hr1] at hll
  obtain ⟨xs, hxs⟩ : ∃ xs, xs = Value.string ⟨(D[i].1).toArray⟩ :: r := ⟨_, rfl⟩
  rw [← hxs] at hll
  have hxl : xs.length = 6 := by rw [hxs]; simp [hr2.len]
  have hxok : xs.all okCell = true := by rw [hxs, List.all_cons, hr2.ok]; rfl
  have lk0 : loadA Try.prog t 9 (.pointer (some ⟨s.next, 0, some 7⟩)) = some (.string ⟨e.1.toArray⟩) := by
   have := htt.load (P := Try.prog) agStr (off := 0) (c := 7) (by simp [qe]) (by simp)
   rw [this]; rfl
  by_cases hke : D[i].1 = e.1
  ·have hbe : (D[i].1 == e.1) = true := beq_iff_eq.2 hke
   rw [hbe, if_neg (by decide), List.append_nil] at hE
   simp -implicitDefEqProofs (disch := omega) only [allW, allR, oneOf, evalAll, partsA, optA, Nat.reduceLT, Nat.reduceLeDiff, Nat.reduceEqDiff, Nat.reduceAdd, ↓reduceIte, hn, h0, h3, h5, h6, h7, ofE0, lk0, hxt.self, hix, q0, valEq_plus, valEq_string, valEq_elemPtr, hlk, str_neq, decide_eq_false (not_not_intro hke), wrapI]
   exact wround_next (D.length - (i + 1)) (by omega) ⟨i + 1, y, LY, E1, put1, rfl, by omega, hE, by omega, hy, hyr, hyF, hst1s, by simp only [get_put, n_put, ↓reduceIte, Nat.reduceEqDiff, hn], by simp only [get_put, n_put, ↓reduceIte, Nat.reduceEqDiff, h0], by simp only [get_put, n_put, ↓reduceIte, Nat.reduceEqDiff, h3], by simp only [get_put, n_put, ↓reduceIte, Nat.reduceEqDiff, h5], by simp only [get_put, n_put, ↓reduceIte, Nat.reduceEqDiff, h6], by simp only [get_put, n_put, ↓reduceIte, Nat.reduceEqDiff]; rfl⟩
  ·have hbe : (D[i].1 == e.1) = false := beq_eq_false_iff_ne.2 hke
   rw [hbe, if_pos (by decide)] at hE
   simp -implicitDefEqProofs (disch := omega) only [allW, allR, oneOf, evalAll, partsA, optA, Nat.reduceLT, Nat.reduceLeDiff, Nat.reduceEqDiff, Nat.reduceAdd, ↓reduceIte, hn, h0, h3, h5, h6, h7, ofE0, lk0, hxt.self, hix, q0, valEq_plus, valEq_string, valEq_elemPtr, hlk, str_neq, decide_eq_true (show D[i].1 ≠ e.1 from hke), hll, buildAgg1 (cs := xs.toArray) Try.underlying24 szE zE plE rfl hxl (by decide)]
   refine wstep_newSlice (by rw [hxl]) ?_
   intro b t1 hb1 hbF1 hst1'
   simp -implicitDefEqProofs (disch := omega) only [allW, allR, oneOf, evalAll, partsA, optA, Nat.reduceLT, Nat.reduceLeDiff, Nat.reduceEqDiff, Nat.reduceAdd, ↓reduceIte, hn, h0, h3, h5, h6, h7]
   refine wstep_append Try.underlying24 Try.underlying24 (.inl ⟨_, rfl⟩) szE byE zE rfl (hy.keeps hst1') hb1.sees.src hxl (by decide) hxok (by omega) (by omega) hyF (by have := hst1s.next; have := hst1'.next; omega) ?_
   intro w' t2 hw' hwF' hst2' htu2 hor
   have hs01 : Stay s.next s t1 := hst.trans (hst1'.weaken hst.next)
   have hnew : EntIs (FF y) t1 xs D[i] := by
    refine ⟨r, hxs, ?_, hr3⟩
    have := ((rowedE.below ⟨r, rfl, hr2, hr3⟩ : EntIs (fun j => F j ∧ j < s.next) s (.string ⟨(D[i].1).toArray⟩ :: r) D[i]))
    obtain ⟨r', hr', h', _⟩ := this
    injection hr' with _ hr'
    rw [hr']
    refine (h'.keeps hs01).mono (fun j hj => ?_)
    rw [hFF]; exact ⟨Nat.zero_le _, fun h => h (.inl hj), fun e => by have := hyF _ e; have := hj.2; omega⟩
   have hR8 := hyr.keeps rowedE hst1'
   rw [hFF] at hR8 hnew
   have hR9 := hR8.grow rowedE hxl hnew htu2 hor
   rw [show (fun j => 0 ≤ j ∧ ¬ (fun j => ¬ OrNew F s.next j) j ∧ idOf w' ≠ some j) = FF w' by rw [hFF]] at hR9
   simp -implicitDefEqProofs (disch := omega) only [allW, allR, oneOf, evalAll, partsA, optA, Nat.reduceLT, Nat.reduceLeDiff, Nat.reduceEqDiff, Nat.reduceAdd, ↓reduceIte, hn, h0, h3, h5, h6, h7, wrapI]
   exact wround_next (D.length - (i + 1)) (by omega) ⟨i + 1, w', LY ++ xs, E1 ++ [D[i]], put1, rfl, by omega, hE, by rw [List.length_append, List.length_singleton]; omega, by rw [List.length_append]; exact hw', hR9, hwF', (hst1s.trans (hst1'.weaken hst1s.next)).trans hst2', by simp only [get_put, n_put, ↓reduceIte, Nat.reduceEqDiff, hn], by simp only [get_put, n_put, ↓reduceIte, Nat.reduceEqDiff, h0], by simp only [get_put, n_put, ↓reduceIte, Nat.reduceEqDiff, h3], by simp only [get_put, n_put, ↓reduceIte, Nat.reduceEqDiff], by simp only [get_put, n_put, ↓reduceIte, Nat.reduceEqDiff, h6], by simp only [get_put, n_put, ↓reduceIte, Nat.reduceEqDiff]; rfl⟩
 clear hn h0 f hstart
 rintro z f t ⟨rfl, y, LY, E, put, hE, hEn, hy, hyr, hyF, hst1s, hn, h3, h5, h6⟩
 have hst : Stay s.next s t := hst1.trans (hst1s.weaken hn1)
 have htt := ht1.keeps hst1s
 cases put with
 | true =>
  rw [if_pos rfl, List.append_nil] at hE
  simp -implicitDefEqProofs (disch := omega) only [allW, allR, wfn_ret, wfn_normal, oneOf, evalAll, partsA, optA, Nat.reduceLT, Nat.reduceLeDiff, Nat.reduceEqDiff, Nat.reduceAdd, ↓reduceIte, hn, h3, h5, h6, Bool.not_true, Try.results52]
  exact ⟨LY, by rw [← hE]; exact hy, fun j hj => by have := hyF j hj; omega, hst, by rw [← hE]; exact hyr.mono rowedE (fun j hj => by rw [hFF] at hj; exact ⟨Classical.not_not.1 hj.2.1, hj.2.2⟩)⟩
 | false =>
  rw [if_neg (by decide)] at hE
  simp -implicitDefEqProofs (disch := omega) only [allW, allR, oneOf, evalAll, partsA, optA, Nat.reduceLT, Nat.reduceLeDiff, Nat.reduceEqDiff, Nat.reduceAdd, ↓reduceIte, hn, h3, h5, h6, Bool.not_false]
  obtain ⟨A, hA⟩ : ∃ A : Nat -> Bool, A = fun j => decide (j < t.next) := ⟨_, rfl⟩
  have hAl : ∀ j, A j = true -> j < t.next := by
   intro j h
   rw [hA] at h
   exact of_decide_eq_true h
  have hAo : ∀ j, j < t.next -> A j = true := fun j h => by rw [hA]; exact decide_eq_true h
  refine LB.Drawn.looseK A hAl 1 1 (by kernel_rfl) (by kernel_rfl) ?_
  have hsp := Stay.spare t 1
  have hnT : (spare t 1).next = t.next + 1 := spare_next _ _
  have htb := htt.keeps hsp
  have hlow : ∀ k, LA.lowV A (some (.pointer (some ⟨s.next, k, some 7⟩))) = true := fun k => LA.lowV_ptr (A := A) (i := s.next) (hAo _ htt.lt)
  have lk : loadA Try.prog (spare t 1) 9 (.pointer (some ⟨s.next, 0, some 7⟩)) = some (.string ⟨e.1.toArray⟩) := by
   have := htb.load (P := Try.prog) agStr (off := 0) (c := 7) (by simp [qe]) (by simp)
   rw [this]; rfl
  have lo : loadA Try.prog (spare t 1) 26 (.pointer (some ⟨s.next, 1, some 7⟩)) = some (.agg re.toArray) := by
   have := Thing.loadMid (P := Try.prog) agO szO htb (off := 1) (c := 7) (by simp [qe]) (by simp [qe])
   rw [this, List.drop_succ_cons, List.drop_zero, List.take_of_length_le (by omega)]
  have hstS : Stay s.next s (spare t 1) := hst.trans (hsp.weaken hst.next)
  have hoi := hre.keeps hstS
  simp -implicitDefEqProofs (disch := omega) only [allW, allR, allL, allB, Nat.sub_self, Nat.add_one_sub_one, Nat.reduceSub, oneOf, evalAll, partsA, optA, Nat.reduceLT, Nat.reduceLeDiff, Nat.reduceEqDiff, Nat.reduceAdd, ↓reduceIte, hn, h3, h5, h6, ofE0, ofE1, hlow, lk, lo, hy.self, hoi.self, valEq_string]
  refine (rcopyO hlc hl1 _ e.2 (Nat.le_refl _) F2 (spare t 1) _ hoi hsm).mono ?_
  rintro _ s7 ⟨cs7, rfl, ho7, hst7⟩
  have hn7 := hst7.next
  refine ⟨fun _ => LA.Stay.toA hAl (hst7.weaken (by omega)), ?_⟩
  have hl7 := ho7.len
  obtain ⟨es, hes⟩ : ∃ es, es = Value.string ⟨e.1.toArray⟩ :: cs7 := ⟨_, rfl⟩
  have hel : es.length = 6 := by rw [hes]; simp [hl7]
  have hself6 : valEq (.agg es.toArray) (.agg es.toArray) = true := by
   have := ho7.self
   rw [hes]
   match cs7, hl7, this with
   | [a, b, c, d, e], _, this =>
    simp [valEq, valEqL] at this ⊢
    exact ⟨by simp [valEq1], this⟩
  have hbE := bE e.1 hl7
  rw [← hes] at hbE
  simp -implicitDefEqProofs (disch := omega) only [allW, allR, allL, allB, Nat.sub_self, Nat.add_one_sub_one, Nat.reduceSub, oneOf, evalAll, partsA, optA, Nat.reduceLT, Nat.reduceLeDiff, Nat.reduceEqDiff, Nat.reduceAdd, ↓reduceIte, hn, h3, h5, h6, ho7.self, hbE, hself6, buildAgg1 (cs := es.toArray) Try.underlying24 szE zE plE rfl hel (by decide)]
  refine LB.smake_newSlice (base := t.next) hel (by omega) (Nat.le_refl _) ?_
  intro bs s8 hbs hid hst8 hnx8 hot8
  have hst68 : Stay t.next t s8 := (hsp.trans (hst7.weaken (by omega))).trans hst8
  have hn8 := hst68.next
  have hns := hst.next
  have ho8 : EntIs (FF y) s8 es e := by
   refine ⟨cs7, hes, (ho7.turns (u := .pointer (some ⟨t.next, 0, none⟩)) (Turns.ofPut hnx8 hot8) (fun j hj e => ?_)).mono (fun j hj => ?_), hrk⟩
   ·have e : some t.next = some j := e
    injection e with e; omega
   ·rw [hFF]; exact ⟨Nat.zero_le _, fun h => h (.inr (by omega)), fun e => by have := hy.idlt _ e; omega⟩
  have hesok : es.all okCell = true := by rw [hes, List.all_cons, ho7.ok]; rfl
  simp -implicitDefEqProofs (disch := omega) only [allW, allR, allL, allB, Nat.sub_self, Nat.add_one_sub_one, Nat.reduceSub, oneOf, evalAll, partsA, optA, Nat.reduceLT, Nat.reduceLeDiff, Nat.reduceEqDiff, Nat.reduceAdd, ↓reduceIte, hn, h3, h5, h6, hy.self]
  refine LB.sstep_append Try.underlying24 Try.underlying24 (.inl ⟨_, rfl⟩) szE byE zE rfl (hy.keeps hst68) hbs.sees.src hel (by decide) hesok (by omega) (by omega) (base := s1.next) hyF (by omega) (fun h => absurd rfl h) (fun j hj => by have := hAl j hj; omega) ?_
  intro w' s9 hw9 hF9 hut9 hor
  have hR8 := hyr.keeps rowedE hst68
  rw [hFF] at hR8 ho8
  have hR9 := hR8.grow rowedE hel ho8 hut9 hor
  rw [show (fun j => 0 ≤ j ∧ ¬ (fun j => ¬ OrNew F s.next j) j ∧ idOf w' ≠ some j) = FF w' by rw [hFF]] at hR9
  have hst9 : Stay s1.next s1 s9 := (hst1s.trans (hst68.weaken hst1s.next)).trans (hut9.keeps hyF (by have := hst1s.next; omega))
  simp -implicitDefEqProofs (disch := omega) only [allW, allR, allL, allB, Nat.sub_self, Nat.add_one_sub_one, Nat.reduceSub, oneOf, evalAll, partsA, optA, Nat.reduceLT, Nat.reduceLeDiff, Nat.reduceEqDiff, Nat.reduceAdd, ↓reduceIte, allW, allR, wfn_ret, wfn_normal, oneOf, evalAll, partsA, optA, Nat.reduceLT, Nat.reduceLeDiff, Nat.reduceEqDiff, Nat.reduceAdd, ↓reduceIte, hn, h3, h5, h6, hw9.self, Try.results52]
  exact ⟨LY ++ es, by rw [← hE, List.length_append]; exact hw9, fun j hj => by have := hF9 j hj; omega, hst1.trans (hst9.weaken hn1), by rw [← hE]; exact hR9.mono rowedE (fun j hj => by rw [hFF] at hj; exact ⟨Classical.not_not.1 hj.2.1, hj.2.2⟩)⟩
end Go.Proofs.Ythlbahnfimigcaa
namespace Go.Proofs.Ythlbahnfimigcaa
open Go.Cl Go.Lib
structure LibRf (lib : Prims) : Prop where
 copy : lib.at 53 = none
 copyB : lib.at 44 = none
 has : lib.at 63 = none
 wit : lib.at 52 = none
 dict : lib.at 29 = none
 get : lib.at 51 = none
 arr : lib.at 35 = none
end Go.Proofs.Ythlbahnfimigcaa
namespace Go.Proofs.Ythlbahnfimigcaa
open Go.Cl Go.Lib
set_option maxHeartbeats 8000000 in
theorem rdict_any {lib : Prims} (R : LibRf lib)
  (F : Nat -> Prop) (s : ASt) (x : Value) (L : List (List UInt8 × O)) (lx : List Value) (hx : Sees s 6 x L.length lx) (hL : ORows EntIs 6 F s L lx) (hLn : L.length ≤ 100000) (hLs : ∀ e ∈ L, Small e.2) :
  Runs Try.prog lib 29 [x] s (NewO s (.mk 7 0 [] [] (putAll [] L))) := by
 refine Runs.enter 21 Try.func29 rfl R.dict rfl rfl ?_
 intro f hn hf
 have h0 : f.get 0 = x := hf 0
 clear hf
 simp -implicitDefEqProofs (disch := omega) only [allW, allR, oneOf, evalAll, partsA, optA, Nat.reduceLT, Nat.reduceLeDiff, Nat.reduceEqDiff, Nat.reduceAdd, ↓reduceIte, hn, h0, zO, plO]
 refine wstep_newPtr ?_
 intro s1 ht1 hst1 hnx1
 have hd6 : noneC.length + 1 = 6 := rfl
 simp -implicitDefEqProofs (disch := omega) only [allW, allR, oneOf, evalAll, partsA, optA, Nat.reduceLT, Nat.reduceLeDiff, Nat.reduceEqDiff, Nat.reduceAdd, ↓reduceIte, hn, h0, hd6, bO1, zO, plO]
 refine wstep_newPtr ?_
 intro s2 ht2 hst2 hnx2
 simp -implicitDefEqProofs (disch := omega) only [allW, allR, oneOf, evalAll, partsA, optA, Nat.reduceLT, Nat.reduceLeDiff, Nat.reduceEqDiff, Nat.reduceAdd, ↓reduceIte, hn, h0, hd6]
 refine wstep_storeAll szO (by decide) ht2 rfl rfl rfl rfl ?_
 intro s3 ht3 hnx3 hot3
 have ht3 : Thing s3 s1.next [.int .i64 7, .int .i64 0, .slice none 0 0, .slice none 0 0, .slice none 0 0] := ht3
 have hs13 : Stay s1.next s1 s3 := hst2.trans ⟨by omega, fun j hj => hot3 j (by omega)⟩
 have hs3 : Stay s.next s s3 := hst1.trans (hs13.weaken (by omega))
 have ht13 := ht1.keeps hs13
 have hn1 := hst1.next
 obtain ⟨G, hG⟩ : ∃ G : Nat -> Prop, G = fun j => s1.next ≤ j ∧ j ≠ s1.next := ⟨_, rfl⟩
 simp -implicitDefEqProofs (disch := omega) only [allW, allR, oneOf, evalAll, partsA, optA, Nat.reduceLT, Nat.reduceLeDiff, Nat.reduceEqDiff, Nat.reduceAdd, ↓reduceIte, hn, h0]
 refine Comes.loopOut (fun z f t => ∃ (i : Nat) (w : Value) (DC : List Value), z = L.length - i ∧ i ≤ L.length ∧ Sees t 6 w (putAll [] (L.take i)).length DC ∧ Foot G w ∧ ORows EntIs 6 G t (putAll [] (L.take i)) DC ∧ Thing t s1.next [.int .i64 7, .int .i64 0, .slice none 0 0, .slice none 0 0, w] ∧ Stay s1.next s1 t ∧ f.n = 21 ∧ f.get 0 = x ∧ f.get 2 = .pointer (some ⟨s.next, 0, some 6⟩) ∧ f.get 3 = .pointer (some ⟨s1.next, 0, some 6⟩) ∧ f.get 4 = .int .i64 (i : Nat))
  (fun z f t => z = .exit 0 ∧ ∃ (w : Value) (DC : List Value), Sees t 6 w (putAll [] L).length DC ∧ Foot G w ∧ ORows EntIs 6 G t (putAll [] L) DC ∧ Thing t s1.next [.int .i64 7, .int .i64 0, .slice none 0 0, .slice none 0 0, w] ∧ Stay s1.next s1 t ∧ f.n = 21 ∧ f.get 2 = .pointer (some ⟨s.next, 0, some 6⟩) ∧ f.get 3 = .pointer (some ⟨s1.next, 0, some 6⟩))
  ⟨0, .slice none 0 0, [], rfl, by omega, by rw [List.take_zero]; exact .nil, trivial, by rw [List.take_zero]; exact ORows.nil, ht3, hs13, by simp only [get_put, n_put, ↓reduceIte, Nat.reduceEqDiff, hn], by simp only [get_put, n_put, ↓reduceIte, Nat.reduceEqDiff, h0], by simp only [get_put, n_put, ↓reduceIte, Nat.reduceEqDiff], by simp only [get_put, n_put, ↓reduceIte, Nat.reduceEqDiff], by simp only [get_put, n_put, ↓reduceIte, Nat.reduceEqDiff]; rfl⟩ ?_ ?_
 ·clear hn h0 f
  rintro Q hQ z f t ⟨i, w, DC, rfl, hi, hw, hwF, hwr, htt, hst, hn, h0, h2, h3, h4⟩
  have hs0t : Stay s.next s t := hst1.trans (hst.weaken hn1)
  have hxt := hx.keeps hs0t
  by_cases hlt : i < L.length
  rotate_left
  ·obtain rfl : i = L.length := by omega
   rw [List.take_length] at hw hwr
   have d1 : ¬ ((L.length : Nat) : Int) < ((L.length : Nat) : Int) := by omega
   simp -implicitDefEqProofs (disch := omega) only [allW, allR, oneOf, evalAll, partsA, optA, Nat.reduceLT, Nat.reduceLeDiff, Nat.reduceEqDiff, Nat.reduceAdd, ↓reduceIte, hn, h0, h2, h3, h4, hxt.lenA Try.underlying24, eq_false d1]
   exact hQ _ _ _ ⟨rfl, w, DC, hw, hwF, hwr, htt, hst, by simp only [get_put, n_put, ↓reduceIte, Nat.reduceEqDiff, hn], by simp only [get_put, n_put, ↓reduceIte, Nat.reduceEqDiff, h2], by simp only [get_put, n_put, ↓reduceIte, Nat.reduceEqDiff, h3]⟩
  have d1 : (i : Int) < (L.length : Int) := by omega
  have hstn := hst.next
  simp -implicitDefEqProofs (disch := omega) only [allW, allR, oneOf, evalAll, partsA, optA, Nat.reduceLT, Nat.reduceLeDiff, Nat.reduceEqDiff, Nat.reduceAdd, ↓reduceIte, hn, h0, h2, h3, h4, hxt.lenA Try.underlying24, eq_true d1]
  obtain ⟨A, hA⟩ : ∃ A : Nat -> Bool, A = fun j => decide (j < t.next) := ⟨_, rfl⟩
  have hAl : ∀ j, A j = true -> j < t.next := by
   intro j h
   rw [hA] at h
   exact of_decide_eq_true h
  have hAo : ∀ j, j < t.next -> A j = true := fun j h => by rw [hA]; exact decide_eq_true h
  refine LB.Drawn.looseK A hAl 1 0 (by kernel_rfl) (by kernel_rfl) ?_
  have hsp := Stay.spare t 0
  have hnT : (spare t 0).next = t.next + 0 := spare_next _ _
  have htO := htt.keeps hsp
  have hxT := hxt.keeps hsp
  have hw2 := hw.keeps hsp
  have hwr2 := hwr.keeps rowedE hsp
  have hix := hxT.indexAddr (P := Try.prog) (k := .i64) (x := (i : Int)) Try.underlying24 szE (by omega) (by omega)
  rw [Int.toNat_natCast] at hix
  have hll := hxT.loadAgg (P := Try.prog) agE szE hlt
  obtain ⟨r, hr1, hr2, hr3⟩ := hL.row i hlt
  have hrl := hr2.len
  rw [hr1] at hll
  obtain ⟨xs, hxs⟩ : ∃ xs, xs = Value.string ⟨(L[i].1).toArray⟩ :: r := ⟨_, rfl⟩
  rw [← hxs] at hll
  have hxss : valEq (.agg xs.toArray) (.agg xs.toArray) = true := by
   have := hr2.self
   rw [hxs]
   match r, hrl, this with
   | [a, b, c, d, e], _, this =>
    simp [valEq, valEqL] at this ⊢
    exact ⟨by simp [valEq1], this⟩
  have hlow5 : ∀ k, LA.lowV A (some (.pointer (some ⟨s1.next, k, some 6⟩))) = true := fun k => LA.lowV_ptr (A := A) (i := s1.next) (hAo _ (by have := htt.lt; omega))
  have l18 : loadA Try.prog (spare t 0) 24 (.pointer (some ⟨s1.next, 4, some 6⟩)) = some w := htO.load agDs (off := 4) (c := 6) rfl (by simp)
  simp -implicitDefEqProofs (disch := omega) only [allW, allR, allL, allB, Nat.sub_self, Nat.add_one_sub_one, Nat.reduceSub, oneOf, evalAll, partsA, optA, Nat.reduceLT, Nat.reduceLeDiff, Nat.reduceEqDiff, Nat.reduceAdd, ↓reduceIte, hn, h0, h2, h3, h4, of4, hlow5, l18, hw2.self, hxT.self, hix, hll, hxss, valEq_elemPtr, LA.lowV_elemOld hxt hAo hlt]
  have hlen5 := putAll_len [] (L.take i)
  rw [List.length_take, List.length_nil] at hlen5
  have hstT : Stay s.next s (spare t 0) := hs0t.trans (hsp.weaken hs0t.next)
  refine (with_any R.wit R.copy R.copyB G (spare t 0) w _ DC hw2 hwr2 (by omega) L[i] _ F ⟨r, hxs, hr2.keeps hstT, hr3⟩ (hLs _ (List.getElem_mem hlt))).mono ?_
  rintro w' t4 ⟨LC, hw4, hwF4, hst4', hwr4⟩
  refine ⟨fun _ => LA.Stay.toA hAl (hst4'.weaken (by omega)), ?_⟩
  have hputE : putAll [] (L.take (i + 1)) = putE (putAll [] (L.take i)) L[i] := putAll_take hlt
  rw [← hputE] at hw4 hwr4
  have htO4 := htO.keeps hst4'
  have hlt3 := htO.lt
  refine LB.sstep_storeN szDs (by decide) htO4 (off := 4) (c := 6) rfl (vs := [w']) hw4.sees.cell1 rfl (by simp) (by simp [hw4.sees.okCell]) (fun h => absurd rfl h) ?_
  intro t5 ht5' hnx5' hot5'
  have ht5' : Thing t5 s1.next [.int .i64 7, .int .i64 0, .slice none 0 0, .slice none 0 0, w'] := ht5'
  have hne : ∀ j, G j -> idOf (.pointer (some ⟨s1.next, 0, none⟩)) ≠ some j := fun j hj e => by
   have e : some s1.next = some j := e
   injection e with e
   rw [hG] at hj; exact hj.2 e.symm
  have hG3 : ∀ j, OrNew G (spare t 0).next j -> G j := fun j hj => by
   rcases hj with hj | hj
   ·exact hj.1
   ·rw [hG]; exact ⟨by omega, by omega⟩
  have hwG : ∀ j, idOf w' = some j -> G j := fun j hj => hG3 j (.inr (hwF4 j hj))
  have hst45 : Stay s1.next t4 t5 := ⟨by omega, fun j hj => hot5' j (by omega)⟩
  have hw5 : Own t5 6 w' (putAll [] (L.take (i + 1))).length LC := hw4.ofPut hnx5' hot5' (fun e => hne _ (hwG _ e) rfl)
  have hwr5 := ((hwr4.mono rowedE (fun j hj => hG3 j hj.1)).turns rowedE (Turns.ofPut hnx5' hot5') hne)
  simp -implicitDefEqProofs (disch := omega) only [allW, allR, allL, allB, Nat.sub_self, Nat.add_one_sub_one, Nat.reduceSub, oneOf, evalAll, partsA, optA, Nat.reduceLT, Nat.reduceLeDiff, Nat.reduceEqDiff, Nat.reduceAdd, ↓reduceIte, hn, h0, h2, h3, h4, wrapI]
  exact wround_next (L.length - (i + 1)) (by omega) ⟨i + 1, w', LC, rfl, by omega, hw5.sees, Foot.of_id hwG, hwr5, ht5', ((hst.trans (hsp.weaken hstn)).trans (hst4'.weaken (by omega))).trans hst45, by simp only [get_put, n_put, ↓reduceIte, Nat.reduceEqDiff, hn], by simp only [get_put, n_put, ↓reduceIte, Nat.reduceEqDiff, h0], by simp only [get_put, n_put, ↓reduceIte, Nat.reduceEqDiff, h2], by simp only [get_put, n_put, ↓reduceIte, Nat.reduceEqDiff, h3], by simp only [get_put, n_put, ↓reduceIte, Nat.reduceEqDiff]; rfl⟩
 clear hn h0 f
 rintro z f t ⟨rfl, w, DC, hw, hwF, hwr, htt, hst, hn, h2, h3⟩
 have hfin : OIs G t [.int .i64 7, .int .i64 0, .slice none 0 0, .slice none 0 0, w] (.mk 7 0 [] [] (putAll [] L)) := OIs.whole .nil .nil hw trivial trivial hwF ORows.nil hwr
 simp -implicitDefEqProofs (disch := omega) only [allW, allR, oneOf, evalAll, partsA, optA, Nat.reduceLT, Nat.reduceLeDiff, Nat.reduceEqDiff, Nat.reduceAdd, ↓reduceIte, hn, h2, h3, Thing.loadO htt rfl]
 refine wstep_storeAll szO (by decide) (ht1.keeps hst) rfl rfl rfl hfin.ok ?_
 intro s7 ht7 hnx7 hot7
 simp -implicitDefEqProofs (disch := omega) only [allW, allR, wfn_ret, wfn_normal, oneOf, evalAll, partsA, optA, Nat.reduceLT, Nat.reduceLeDiff, Nat.reduceEqDiff, Nat.reduceAdd, ↓reduceIte, hn, h2, Thing.loadO ht7 rfl, resultsA_cell, Try.results29]
 exact NewO.put hfin (fun j hj => by rw [hG] at hj; exact ⟨by omega, by omega⟩) hnx7 hot7 (hst1.trans (hst.weaken hn1)) (Nat.le_refl _)
end Go.Proofs.Ythlbahnfimigcaa
namespace Go.Proofs.Ythlbahnfimigcaa
open Go.Cl Go.Lib
theorem NewL.none {s t : ASt} (h : Stay s.next s t) : NewL s O.none (.agg noneC.toArray) t := ⟨0, 0, [], [], [], _, _, _, [], [], rfl, rfl, .nil, Fresh.nil _, .nil, .nil, trivial, trivial, ORows.nil, ORows.nil, h⟩
theorem NewL.put {s t t' u : ASt} {o : O} {v : Value} {i : Nat} (h : NewL t o v t') (hs : Stay s.next s t) (hi : i < t.next) (hsi : s.next ≤ i) (h1 : u.next = t'.next) (h2 : ∀ q, q ≠ i -> u.heap.get q = t'.heap.get q) : NewL s o v u := by
 obtain ⟨k, n, b, l, d, bv, lv, dv, lc, dc, rfl, rfl, g1, g2, g3, g4, g5, g6, g7, g8, g9⟩ := h
 have hn := hs.next
 have hu : Turns (.pointer (some ⟨i, 0, Option.none⟩)) t' u := Turns.ofPut h1 h2
 have hne : ∀ j, t.next ≤ j ∧ idOf lv ≠ some j -> idOf (.pointer (some ⟨i, 0, Option.none⟩)) ≠ some j := fun j hj e => by
  have e : some i = some j := e
  injection e with e; have := hj.1; omega
 have hm : ∀ j, t.next ≤ j ∧ idOf lv ≠ some j -> s.next ≤ j ∧ idOf lv ≠ some j := fun j hj => ⟨by have := hj.1; omega, hj.2⟩
 exact ⟨k, n, b, l, d, bv, lv, dv, lc, dc, rfl, rfl, g1.turns hu (fun j hj e => by have e : some i = some j := e; injection e with e; have := g2 j hj; omega), fun j hj => by have := g2 j hj; omega, g3.turnsF g5 hu hne, g4.turnsF g6 hu hne, g5.mono hm, g6.mono hm, (g7.turns rowedO hu hne).mono rowedO hm, (g8.turns rowedE hu hne).mono rowedE hm, (hs.trans (g9.weaken hn)).trans ⟨by omega, fun j hj => h2 j (by omega)⟩⟩
set_option maxHeartbeats 4000000 in
theorem rarr_any {lib : Prims} (hl : lib.at 35 = none) (hlc : lib.at 53 = none) (hlcl : lib.at 44 = none) (F : Nat -> Prop) (s : ASt) (x : Value) (l : List O) (lc : List Value) (hx : Sees s 5 x l.length lc) (rl : ORows OIs 5 F s l lc) (hln : l.length ≤ 100000) (hL1 : ∀ o ∈ l, Small o) :
  Runs Try.prog lib 35 [x] s (NewO s (.mk 6 0 [] l [])) := by
 refine Runs.enter 23 Try.func35 rfl hl rfl rfl ?_
 intro f hn hf
 have h0 : f.get 0 = x := hf 0
 clear hf
 simp -implicitDefEqProofs (disch := omega) only [allW, allR, oneOf, evalAll, partsA, optA, Nat.reduceLT, Nat.reduceLeDiff, Nat.reduceEqDiff, Nat.reduceAdd, ↓reduceIte, hn, h0, zO, plO]
 refine wstep_newPtr ?_
 intro s1 ht1 hst1 hnx1
 have hd6 : noneC.length + 1 = 6 := rfl
 simp -implicitDefEqProofs (disch := omega) only [allW, allR, oneOf, evalAll, partsA, optA, Nat.reduceLT, Nat.reduceLeDiff, Nat.reduceEqDiff, Nat.reduceAdd, ↓reduceIte, hn, h0, hd6, bO1, zO, plO]
 refine wstep_newPtr ?_
 intro s2 ht2 hst2 hnx2
 simp -implicitDefEqProofs (disch := omega) only [allW, allR, oneOf, evalAll, partsA, optA, Nat.reduceLT, Nat.reduceLeDiff, Nat.reduceEqDiff, Nat.reduceAdd, ↓reduceIte, hn, h0, hd6]
 refine wstep_storeAll szO (by decide) ht2 rfl rfl rfl rfl ?_
 intro s3 ht3 hnx3 hot3
 have ht3 : Thing s3 s1.next [.int .i64 6, .int .i64 0, .slice none 0 0, .slice none 0 0, .slice none 0 0] := ht3
 have hs13 : Stay s1.next s1 s3 := hst2.trans ⟨by omega, fun j hj => hot3 j (by omega)⟩
 have hs3 : Stay s.next s s3 := hst1.trans (hs13.weaken (by omega))
 have ht13 := ht1.keeps hs13
 have hx3 := hx.keeps hs3
 have hn1 := hst1.next
 have hn13 := hs13.next
 have hlt3 := ht3.lt
 simp -implicitDefEqProofs (disch := omega) only [allW, allR, oneOf, evalAll, partsA, optA, Nat.reduceLT, Nat.reduceLeDiff, Nat.reduceEqDiff, Nat.reduceAdd, ↓reduceIte, hn, h0]
 obtain ⟨FF, hFF⟩ : ∃ FF : Value -> Nat -> Prop, FF = fun v j => s3.next ≤ j ∧ ¬ (fun _ => False) j ∧ idOf v ≠ some j := ⟨_, rfl⟩
 refine Comes.loopOut (fun z f t => ∃ (i : Nat) (y : Value) (LC : List Value), z = l.length - i ∧ i ≤ l.length ∧ Own t 5 y i LC ∧ ORows OIs 5 (FF y) t (l.take i) LC ∧ Fresh s3.next y ∧ Thing t s1.next [.int .i64 6, .int .i64 0, .slice none 0 0, y, .slice none 0 0] ∧ Stay s1.next s1 t ∧ s3.next ≤ t.next ∧ f.n = 23 ∧ f.get 0 = x ∧ f.get 2 = .pointer (some ⟨s.next, 0, some 6⟩) ∧ f.get 3 = .pointer (some ⟨s1.next, 0, some 6⟩) ∧ f.get 4 = .int .i64 (i : Nat))
  (fun z f t => z = .exit 0 ∧ ∃ (y : Value) (LC : List Value), Own t 5 y l.length LC ∧ ORows OIs 5 (FF y) t l LC ∧ Fresh s3.next y ∧ Thing t s1.next [.int .i64 6, .int .i64 0, .slice none 0 0, y, .slice none 0 0] ∧ Stay s1.next s1 t ∧ f.n = 23 ∧ f.get 2 = .pointer (some ⟨s.next, 0, some 6⟩) ∧ f.get 3 = .pointer (some ⟨s1.next, 0, some 6⟩))
  ⟨0, .slice none 0 0, [], rfl, by omega, .nil, by rw [List.take_zero]; exact ORows.nil, Fresh.nil _, ht3, hs13, Nat.le_refl _, by simp only [get_put, n_put, ↓reduceIte, Nat.reduceEqDiff, hn], by simp only [get_put, n_put, ↓reduceIte, Nat.reduceEqDiff, h0], by simp only [get_put, n_put, ↓reduceIte, Nat.reduceEqDiff], by simp only [get_put, n_put, ↓reduceIte, Nat.reduceEqDiff], by simp only [get_put, n_put, ↓reduceIte, Nat.reduceEqDiff]; rfl⟩ ?_ ?_
 ·clear hn h0 f
  rintro Q hQ z f s6 ⟨i, y, LC, rfl, hi, hy, hR, hyF, hb3', hst6, hn6, hn, h0, h2, h3, h4⟩
  have hst06 : Stay s.next s s6 := hst1.trans (hst6.weaken hn1)
  have hL6 := hx.keeps hst06
  by_cases hlt : i < l.length
  rotate_left
  ·obtain rfl : i = l.length := by omega
   rw [List.take_length] at hR
   have d1 : ¬ ((l.length : Nat) : Int) < ((l.length : Nat) : Int) := by omega
   simp -implicitDefEqProofs (disch := omega) only [allW, allR, oneOf, evalAll, partsA, optA, Nat.reduceLT, Nat.reduceLeDiff, Nat.reduceEqDiff, Nat.reduceAdd, ↓reduceIte, hn, h0, h2, h3, h4, hL6.lenA Try.underlying23, eq_false d1]
   exact hQ _ _ _ ⟨rfl, y, LC, hy, hR, hyF, hb3', hst6, by simp only [get_put, n_put, ↓reduceIte, Nat.reduceEqDiff, hn], by simp only [get_put, n_put, ↓reduceIte, Nat.reduceEqDiff, h2], by simp only [get_put, n_put, ↓reduceIte, Nat.reduceEqDiff, h3]⟩
  have hy2 : idOf y ≠ some s1.next := fun e => by have := hyF _ e; omega
  have d1 : (i : Int) < (l.length : Int) := by omega
  simp -implicitDefEqProofs (disch := omega) only [allW, allR, oneOf, evalAll, partsA, optA, Nat.reduceLT, Nat.reduceLeDiff, Nat.reduceEqDiff, Nat.reduceAdd, ↓reduceIte, hn, h0, h2, h3, h4, hL6.lenA Try.underlying23, eq_true d1]
  obtain ⟨A, hA⟩ : ∃ A : Nat -> Bool, A = fun j => decide (j < s6.next) := ⟨_, rfl⟩
  have hAl : ∀ j, A j = true -> j < s6.next := by
   intro j h
   rw [hA] at h
   exact of_decide_eq_true h
  have hAo : ∀ j, j < s6.next -> A j = true := fun j h => by rw [hA]; exact decide_eq_true h
  refine LB.Drawn.looseK A hAl 1 1 (by kernel_rfl) (by kernel_rfl) ?_
  have hsp := Stay.spare s6 1
  have hnT : (spare s6 1).next = s6.next + 1 := spare_next _ _
  have hlow3 : ∀ k, LA.lowV A (some (.pointer (some ⟨s1.next, k, some 6⟩))) = true := fun k => LA.lowV_ptr (A := A) (i := s1.next) (hAo _ hb3'.lt)
  have l8 : loadA Try.prog (spare s6 1) 23 (.pointer (some ⟨s1.next, 3, some 6⟩)) = some y := (hb3'.keeps hsp).load agLs (off := 3) (c := 6) rfl (by simp)
  have hL7 := hL6.keeps hsp
  have hix := hL7.indexAddr (P := Try.prog) (k := .i64) (x := (i : Int)) Try.underlying23 szO (by omega) (by omega)
  rw [Int.toNat_natCast] at hix
  have hld := hL7.loadAgg (P := Try.prog) agO szO hlt
  have hoi := ((rl.row i hlt).keeps hst06).keeps hsp
  obtain ⟨xs, hxs⟩ : ∃ xs, xs = (lc.drop (i * 5)).take 5 := ⟨_, rfl⟩
  rw [← hxs] at hld hoi
  simp -implicitDefEqProofs (disch := omega) only [allW, allR, allL, allB, Nat.sub_self, Nat.add_one_sub_one, Nat.reduceSub, oneOf, evalAll, partsA, optA, Nat.reduceLT, Nat.reduceLeDiff, Nat.reduceEqDiff, Nat.reduceAdd, ↓reduceIte, hn, h0, h2, h3, h4, of3, hlow3, l8, hy.self, hL7.self, hix, hld, hoi.self, valEq_elemPtr, LA.lowV_elemOld hL6 hAo hlt]
  refine (rcopyO hlc hlcl _ l[i] (Nat.le_refl _) F (spare s6 1) _ hoi (hL1 _ (List.getElem_mem hlt))).mono ?_
  rintro _ s9 ⟨cs7, rfl, ho7, hst9⟩
  have hn9 := hst9.next
  refine ⟨fun _ => LA.Stay.toA hAl (hst9.weaken (by omega)), ?_⟩
  have hl7 := ho7.len
  simp -implicitDefEqProofs (disch := omega) only [allW, allR, allL, allB, Nat.sub_self, Nat.add_one_sub_one, Nat.reduceSub, oneOf, evalAll, partsA, optA, Nat.reduceLT, Nat.reduceLeDiff, Nat.reduceEqDiff, Nat.reduceAdd, ↓reduceIte, hn, h0, h2, h3, h4, ho7.self, buildAgg1 (cs := cs7.toArray) Try.underlying23 szO zO plO rfl hl7 (by decide)]
  refine LB.smake_newSlice (base := s6.next) hl7 (by omega) (Nat.le_refl _) ?_
  intro bs sa hbs hid hsta hnxa hota
  have hst6a : Stay s6.next s6 sa := (hsp.trans (hst9.weaken (by omega))).trans hsta
  have hna := hst6a.next
  have ho8 : OIs (FF y) sa cs7 l[i] := by
   refine (ho7.turns (u := .pointer (some ⟨s6.next, 0, none⟩)) (Turns.ofPut hnxa hota) (fun j hj e => ?_)).mono (fun j hj => ?_)
   ·have e : some s6.next = some j := e
    injection e with e; omega
   ·rw [hFF]; exact ⟨by omega, fun h => h, fun e => by have := hy.idlt _ e; omega⟩
  simp -implicitDefEqProofs (disch := omega) only [allW, allR, allL, allB, Nat.sub_self, Nat.add_one_sub_one, Nat.reduceSub, oneOf, evalAll, partsA, optA, Nat.reduceLT, Nat.reduceLeDiff, Nat.reduceEqDiff, Nat.reduceAdd, ↓reduceIte, hn, h0, h2, h3, h4, hy.self]
  refine LB.sstep_append Try.underlying23 Try.underlying23 (.inl ⟨_, rfl⟩) szO byO zO rfl (hy.keeps hst6a) hbs.sees.src hl7 (by decide) ho8.ok (by omega) (by omega) (base := s3.next) hyF (by omega) (fun h => absurd rfl h) (fun j hj => by have := hAl j hj; omega) ?_
  intro y' sb hyb hFb hutb hor
  have hnb := hutb.next
  have hR8 := hR.keeps rowedO hst6a
  rw [hFF] at hR8 ho8
  have hR9 := hR8.grow rowedO hl7 ho8 hutb hor
  rw [show (fun j => s3.next ≤ j ∧ ¬ (fun _ => False) j ∧ idOf y' ≠ some j) = FF y' by rw [hFF]] at hR9
  have hyb2 : idOf y' ≠ some s1.next := fun e => by have := hFb _ e; omega
  simp -implicitDefEqProofs (disch := omega) only [allW, allR, allL, allB, Nat.sub_self, Nat.add_one_sub_one, Nat.reduceSub, oneOf, evalAll, partsA, optA, Nat.reduceLT, Nat.reduceLeDiff, Nat.reduceEqDiff, Nat.reduceAdd, ↓reduceIte, hn, h0, h2, h3, h4, of3, hlow3]
  refine LB.sstep_storeN szLs (by decide) ((hb3'.keeps hst6a).turns hutb hy2) (off := 3) (c := 6) rfl (vs := [y']) hyb.sees.cell1 rfl (by simp) (by simp [hyb.sees.okCell]) (fun h => absurd rfl h) ?_
  intro sc htc hnxc hotc
  have htc : Thing sc s1.next [.int .i64 6, .int .i64 0, .slice none 0 0, y', .slice none 0 0] := htc
  have huc : Turns (.pointer (some ⟨s1.next, 0, none⟩)) sb sc := Turns.ofPut hnxc hotc
  have hnec : ∀ j, FF y' j -> idOf (.pointer (some ⟨s1.next, 0, none⟩)) ≠ some j := fun j hj e => by
   have e : some s1.next = some j := e
   injection e with e
   rw [hFF] at hj; have := hj.1; omega
  simp -implicitDefEqProofs (disch := omega) only [allW, allR, allL, allB, Nat.sub_self, Nat.add_one_sub_one, Nat.reduceSub, oneOf, evalAll, partsA, optA, Nat.reduceLT, Nat.reduceLeDiff, Nat.reduceEqDiff, Nat.reduceAdd, ↓reduceIte, hn, h0, h2, h3, h4, wrapI]
  have hn6' := hst6.next
  refine wround_next (l.length - (i + 1)) (by omega) ⟨i + 1, y', LC ++ cs7, rfl, by omega, hyb.ofPut hnxc hotc hyb2, ?_, hFb, htc, ?_, by omega, by simp only [get_put, n_put, ↓reduceIte, Nat.reduceEqDiff, hn], by simp only [get_put, n_put, ↓reduceIte, Nat.reduceEqDiff, h0], by simp only [get_put, n_put, ↓reduceIte, Nat.reduceEqDiff, h2], by simp only [get_put, n_put, ↓reduceIte, Nat.reduceEqDiff, h3], by simp only [get_put, n_put, ↓reduceIte, Nat.reduceEqDiff]; rfl⟩
  ·rw [List.take_add_one, List.getElem?_eq_getElem hlt]
   exact hR9.turns rowedO huc hnec
  ·exact ((hst6.trans (hst6a.weaken (by omega))).trans ((hutb.keeps hyF (by omega)).weaken (by omega))).trans ⟨by omega, fun j hj => hotc j (by omega)⟩
 clear hn h0 f
 rintro z f t ⟨rfl, y, LC, hy, hR, hyF, hb3', hst, hn, h2, h3⟩
 have hfin : OIs (fun j => s3.next ≤ j) t [.int .i64 6, .int .i64 0, .slice none 0 0, y, .slice none 0 0] (.mk 6 0 [] l []) := OIs.whole .nil hy.sees .nil trivial (Foot.fresh hyF) trivial (hR.mono rowedO (fun j hj => by rw [hFF] at hj; exact hj.1)) ORows.nil
 simp -implicitDefEqProofs (disch := omega) only [allW, allR, oneOf, evalAll, partsA, optA, Nat.reduceLT, Nat.reduceLeDiff, Nat.reduceEqDiff, Nat.reduceAdd, ↓reduceIte, hn, h2, h3, Thing.loadO hb3' rfl]
 refine wstep_storeAll szO (by decide) (ht1.keeps hst) rfl rfl rfl hfin.ok ?_
 intro s7 ht7 hnx7 hot7
 simp -implicitDefEqProofs (disch := omega) only [allW, allR, wfn_ret, wfn_normal, oneOf, evalAll, partsA, optA, Nat.reduceLT, Nat.reduceLeDiff, Nat.reduceEqDiff, Nat.reduceAdd, ↓reduceIte, hn, h2, Thing.loadO ht7 rfl, resultsA_cell, Try.results35]
 exact NewO.put hfin (fun j hj => ⟨by omega, by omega⟩) hnx7 hot7 (hst1.trans (hst.weaken hn1)) (Nat.le_refl _)
end Go.Proofs.Ythlbahnfimigcaa