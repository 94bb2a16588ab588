/-
  Fonts in tables, the program: cursors that stand beside each other; two bytes, four bytes.
-/
import Derived.Test.YtpdkppimlcbhlaaCur2
import Derived.Test.YtpdkppimlcbhlaaSfP
import Derived.Test.YtpdkppimlcbhlaaLib
import Derived.Test.YtpdkppimlcbhlaaAgg
set_option linter.unusedSimpArgs false
set_option linter.unusedVariables false
set_option maxRecDepth 100000
namespace Go.Cl
theorem Turns.trans {v : Value} {s s' s'' : ASt} (h : Turns v s s') (k : Turns v s' s'') : Turns v s s'' :=
  ⟨Nat.le_trans h.next k.next, fun i hi hn => (k.get i (Nat.lt_of_lt_of_le hi h.next) hn).trans (h.get i hi hn)⟩
theorem Turns.after {v : Value} {s s' s'' : ASt} (h : Stay s.next s s') (k : Turns v s' s'') : Turns v s s'' :=
  ⟨Nat.le_trans h.next k.next, fun i hi hn => (k.get i (Nat.lt_of_lt_of_le hi h.next) hn).trans (h.get i hi)⟩
/-- These blocks alone turn. -/
structure CTo (I : List Nat) (s s' : ASt) : Prop where
  next : s.next ≤ s'.next
  get : ∀ j, j < s.next → j ∉ I → s'.heap.get j = s.heap.get j
theorem CTo.refl (I : List Nat) (s : ASt) : CTo I s s := ⟨Nat.le_refl _, fun _ _ _ => rfl⟩
theorem CTo.trans {I : List Nat} {s s' s'' : ASt} (h : CTo I s s') (k : CTo I s' s'') : CTo I s s'' :=
  ⟨Nat.le_trans h.next k.next, fun j hj hn => (k.get j (Nat.lt_of_lt_of_le hj h.next) hn).trans (h.get j hj hn)⟩
theorem CTo.ofStay {I : List Nat} {s s' : ASt} (h : Stay s.next s s') : CTo I s s' := ⟨h.next, fun j hj _ => h.get j hj⟩
theorem CTo.mono {I J : List Nat} {s s' : ASt} (h : CTo I s s') (k : ∀ i ∈ I, i ∈ J) : CTo J s s' := ⟨h.next, fun j hj hn => h.get j hj (fun e => hn (k j e))⟩
theorem CTo.keeps {I : List Nat} {base : Nat} {s s' : ASt} (h : CTo I s s') (hI : ∀ i ∈ I, base ≤ i) (hb : base ≤ s.next) : Stay base s s' :=
  ⟨h.next, fun j hj => h.get j (by omega) (fun e => by have := hI j e; omega)⟩
theorem Thing.cto {I : List Nat} {s s' : ASt} {i : Nat} {cs : List Value} (h : Thing s i cs) (k : CTo I s s') (hne : i ∉ I) : Thing s' i cs := by
  obtain ⟨h1, low, z, h2, h3⟩ := h
  refine ⟨Nat.lt_of_lt_of_le h1 k.next, low, z, ?_, h3⟩
  rw [← h2]
  simp only [ASt.blk?, k.get i h1 hne]
/-- The block that is looked at. -/
def home : Value → Option Nat
  | .slice (some a) _ (_ + 1) => some a.block
  | _ => none
theorem Sees.homeLt {s : ASt} {z : Nat} {v : Value} {n : Nat} {l : List Value} (h : Sees s z v n l) : ∀ j, home v = some j → j < s.next := by
  intro j hj
  cases h with
  | nil => cases hj
  | bare i off => cases hj
  | of i off n c bl l hi hbb hz hl hc hlen hoff ht =>
    cases c with
    | zero => cases hj
    | succ c => injection hj with hj; subst hj; exact hi
theorem home_id {v : Value} {j : Nat} (h : home v = some j) : idOf v = some j := by
  unfold home at h
  split at h
  · exact h
  · cases h
theorem Sees.cto {I : List Nat} {s s' : ASt} {z : Nat} {v : Value} {n : Nat} {l : List Value} (h : Sees s z v n l) (k : CTo I s s') (hne : ∀ i, home v = some i → i ∉ I) : Sees s' z v n l := by
  cases h with
  | nil => exact .nil
  | bare i off => exact .bare i off
  | of i off n c bl l hi hbb hz hl hc hlen hoff ht =>
    cases c with
    | zero => omega
    | succ c =>
      refine .of i off n (c + 1) bl l (Nat.lt_of_lt_of_le hi k.next) ?_ hz hl hc hlen hoff ht
      rw [← hbb]
      simp only [ASt.blk?, k.get i hi (hne i rfl)]
theorem Own.cto {I : List Nat} {s s' : ASt} {z : Nat} {v : Value} {n : Nat} {l : List Value} (h : Own s z v n l) (k : CTo I s s') (hne : ∀ i, idOf v = some i → i ∉ I) : Own s' z v n l := by
  cases h with
  | nil => exact .nil
  | of i n low l hi hb hl hlen =>
    refine .of i n low l (Nat.lt_of_lt_of_le hi k.next) ?_ hl hlen
    rw [← hb]
    simp only [ASt.blk?, k.get i hi (hne i rfl)]
theorem Sees.fullId {P : Program} {t e : TypeId} {z : Nat} (hu : P.underlying t = some (.slice e)) (hsz : sizeB P e = some z) {s : ASt} {v : Value} {n : Nat} {l : List Value} (h : Sees s z v n l) (k k2 : IntKind) {v' : Value} (hv : sliceA P s t v none (some (.int k n)) (some (.int k2 n)) = some v') : ∀ j, home v' = some j → home v = some j := by
  have h1 : natOf (some (.int k (n : Int))) n = some n := rfl
  have h2 : natOf (some (.int k2 (n : Int))) 0 = some n := rfl
  have h3 : (Nat.ble 0 n && Nat.ble n n) = true := by simp
  have h4 : (Nat.ble n n && Nat.ble n n) = true := by simp
  cases h with
  | nil =>
    unfold sliceA at hv; rw [hu] at hv; simp only [natOf_none, h1, hsz, h3, if_true, h2, h4] at hv
    injection hv with hv; subst hv; exact fun j h => h
  | bare i off =>
    unfold sliceA at hv; rw [hu] at hv; simp only [natOf_none, h1, hsz, h3, if_true, h2, h4, eszIs] at hv
    injection hv with hv; subst hv; exact fun j h => h
  | of i off n c b l hi hb hz hl hc hlen hoff ht =>
    have he : eszIs s i c z = true := by
      unfold eszIs
      split
      · rfl
      · rw [hb]; simp [hz]
    by_cases h0 : n = 0
    · subst h0
      unfold sliceA at hv; rw [hu] at hv; simp only [natOf_none, h1, hsz, h3, if_true, h2, h4, he] at hv
      injection hv with hv; subst hv; exact fun j h => by cases h
    · have hne : Nat.beq 0 n = false := by rw [← Bool.not_eq_true, Nat.beq_eq]; omega
      unfold sliceA at hv; rw [hu] at hv; simp only [natOf_none, h1, hsz, h3, if_true, h2, h4, he, hne] at hv
      simp at hv
      subst hv; exact fun j h => h
theorem Sees.lowOf {s : ASt} {z : Nat} {v : Value} {n : Nat} {l : List Value} (h : Sees s z v n l) {base : Nat} (hb : ∀ j, home v = some j → j < base) : Low base s z v n l := by
  intro s' k
  cases h with
  | nil => exact .nil
  | bare i off => exact .bare i off
  | of i off n c bl l hi hbb hz hl hc hlen hoff ht =>
    cases c with
    | zero => omega
    | succ c =>
      have hib := hb i rfl
      by_cases hn : i < s'.next
      · exact .of i off n (c + 1) bl l hn ((k.blk hib).trans hbb) hz hl hc hlen hoff ht
      · have := k.next; omega
end Go.Cl
namespace Go.Proofs.Ytpdkppimlcbhlaa
open Go.Cl Go.Cl.Sf
/-- What two (four) bytes at a place say; -1: there are none. -/
def numAt (b : List UInt8) (n : Int) (k : Nat) : Int := if 0 ≤ n ∧ n + k ≤ b.length then ((bigOf ((b.drop n.toNat).take k) : Nat) : Int) else -1
theorem numAt_half {b : List UInt8} {n : Nat} (h : n + 2 ≤ b.length) : numAt b (n : Nat) 2 = (half b n : Nat) := by
  unfold numAt half; rw [if_pos (by omega), Int.toNat_natCast]
theorem numAt_word {b : List UInt8} {n : Nat} (h : n + 4 ≤ b.length) : numAt b (n : Nat) 4 = (word b n : Nat) := by
  unfold numAt word; rw [if_pos (by omega), Int.toNat_natCast]
theorem szTab : sizeB Try.prog 55 = some 1 := by kernel_rfl
theorem zTab : zeroB Try.prog 55 = some (.agg #[.pointer none]) := by kernel_rfl
theorem agTab : isAggB Try.prog 55 = some true := by kernel_rfl
theorem szCurP : sizeB Try.prog 53 = some 1 := by kernel_rfl
theorem agCurP : isAggB Try.prog 53 = some false := by kernel_rfl
theorem sffld0 (i o c : Nat) : fieldAddrA Try.prog 55 (.pointer (some ⟨i, o, some c⟩)) 0 = some (.pointer (some ⟨i, o + 0, some c⟩)) := by
  unfold fieldAddrA; rw [Try.underlying55]; simp [szCurP]
theorem CurB.keeps {base : Nat} {s s' : ASt} {i : Nat} {b : Value} {l : List UInt8} {p : Nat} (h : CurB base s i b l p) (hb : base ≤ s.next) (k : Stay s.next s s') : CurB base s' i b l p := by
  obtain ⟨h1, h2, h3, h4⟩ := h
  exact ⟨h1.keeps k, h2.stay (k.weaken hb), h3, h4⟩
theorem takeIs_at {l : List UInt8} {p : Nat} {k : Nat} (h : p + k ≤ l.length) : takeIs l p k = (l.drop p).take k := by
  unfold takeIs
  rw [if_pos (by omega)]; rfl
abbrev tabV (i : Nat) : Value := .agg #[cptr i]
theorem tabCells (i : Nat) : (tabV i).cells.toList = [cptr i] := rfl
/-- A cursor among others, whose blocks are these: its bytes are in none of them. -/
def Curs (I : List Nat) (s : ASt) (i : Nat) (l : List UInt8) : Prop := ∃ p b, Thing s i [b, .int .i64 (p : Nat)] ∧ Sees s 1 b l.length (ofBytes l) ∧ p ≤ l.length ∧ ∀ j, home b = some j → j < i ∧ j ∉ I
theorem Curs.lt {I : List Nat} {s : ASt} {i : Nat} {l : List UInt8} (h : Curs I s i l) : i < s.next := by
  obtain ⟨p, b, h, _⟩ := h
  exact h.lt
theorem Curs.curB {I : List Nat} {s : ASt} {i : Nat} {l : List UInt8} (h : Curs I s i l) : ∃ p b, CurB i s i b l p ∧ ∀ j, home b = some j → j < i ∧ j ∉ I := by
  obtain ⟨p, b, h1, h2, h3, h4⟩ := h
  exact ⟨p, b, ⟨h1, h2.lowOf (fun j hj => (h4 j hj).1), Nat.le_refl _, h3⟩, h4⟩
theorem CurB.curs {I : List Nat} {base : Nat} {s : ASt} {i : Nat} {b : Value} {l : List UInt8} {p : Nat} (h : CurB base s i b l p) (hb : ∀ j, home b = some j → j < i ∧ j ∉ I) : Curs I s i l :=
  ⟨p, b, h.1, h.2.1.sees, h.2.2.2, hb⟩
theorem Curs.cto {I J : List Nat} {s s' : ASt} {i : Nat} {l : List UInt8} (h : Curs I s i l) (k : CTo J s s') (hJ : ∀ j ∈ J, j ∈ I ∨ s.next ≤ j) (hne : i ∉ J) : Curs I s' i l := by
  obtain ⟨p, b, h1, h2, h3, h4⟩ := h
  have hlt := h1.lt
  exact ⟨p, b, h1.cto k hne, h2.cto k (fun j hj hJ' => by
    have := h4 j hj
    rcases hJ j hJ' with h | h
    · exact this.2 h
    · omega), h3, h4⟩
theorem turns_cto {i : Nat} {s s' : ASt} (h : Turns (cptr i) s s') : CTo [i] s s' := ⟨h.next, fun j hj hn => h.get j hj (fun e => by
  have : some i = some j := e
  injection this with this; subst this; exact hn (List.mem_singleton.mpr rfl))⟩
abbrev idsT (L : List (Nat × List UInt8)) : List Nat := L.map Prod.fst
/-- Cursors beside each other, whose bytes are in no block of X. -/
structure Tabs (X : List Nat) (s : ASt) (L : List (Nat × List UInt8)) : Prop where
  nd : (L.map Prod.fst).Nodup
  cur : ∀ e ∈ L, Curs (X ++ idsT L) s e.1 e.2
theorem Tabs.lt {X : List Nat} {s : ASt} {L : List (Nat × List UInt8)} (h : Tabs X s L) : ∀ i ∈ idsT L, i < s.next := by
  intro i hi
  obtain ⟨e, he, rfl⟩ := List.mem_map.mp hi
  exact (h.cur e he).lt
/-- What is made later is none of them. -/
theorem Tabs.later {X : List Nat} {s : ASt} {L : List (Nat × List UInt8)} (h : Tabs X s L) {j : Nat} (hj : s.next ≤ j) : j ∉ idsT L := fun hi => by have := h.lt j hi; omega
theorem nd_same {L : List (Nat × List UInt8)} (h : (L.map Prod.fst).Nodup) : ∀ {i : Nat} {l l' : List UInt8}, (i, l) ∈ L → (i, l') ∈ L → l = l' := by
  induction L with
  | nil => intro i l l' h1; simp at h1
  | cons a L ih =>
    intro i l l' h1 h2
    rw [List.map_cons, List.nodup_cons] at h
    rcases List.mem_cons.mp h1 with e1 | m1 <;> rcases List.mem_cons.mp h2 with e2 | m2
    · rw [← e1] at e2; injection e2 with _ e2; exact e2.symm
    · exact absurd (List.mem_map_of_mem m2 : (i, l').1 ∈ L.map Prod.fst) (by rw [← e1] at h; exact h.1)
    · exact absurd (List.mem_map_of_mem m1 : (i, l).1 ∈ L.map Prod.fst) (by rw [← e2] at h; exact h.1)
    · exact ih h.2 m1 m2
theorem Tabs.turn {X : List Nat} {s s' : ASt} {L : List (Nat × List UInt8)} (h : Tabs X s L) {i : Nat} {l : List UInt8} (hm : (i, l) ∈ L) (hc : Curs (X ++ idsT L) s' i l) (k : CTo [i] s s') : Tabs X s' L := by
  refine ⟨h.nd, fun e he => ?_⟩
  by_cases hi : e.1 = i
  · have : e.2 = l := nd_same h.nd (i := i) (l := e.2) (l' := l) (by rw [← hi]; exact he) hm
    rw [hi, this]; exact hc
  · exact (h.cur e he).cto k (fun j hj => by rw [List.mem_singleton.mp hj]; exact .inl (List.mem_append_right _ (List.mem_map_of_mem hm))) (fun hj => hi (List.mem_singleton.mp hj))
theorem Tabs.keeps {X : List Nat} {s s' : ASt} {L : List (Nat × List UInt8)} (h : Tabs X s L) (k : Stay s.next s s') : Tabs X s' L :=
  ⟨h.nd, fun e he => (h.cur e he).cto (CTo.ofStay (I := []) k) (fun j hj => by cases hj) (fun hj => by cases hj)⟩
/-- Blocks that are none of them, and of none of their bytes. -/
theorem Tabs.cto {X I : List Nat} {s s' : ASt} {L : List (Nat × List UInt8)} (h : Tabs X s L) (k : CTo I s s') (n0 : Nat) (hI : ∀ j ∈ I, n0 ≤ j) (hL : ∀ e ∈ L, e.1 < n0) : Tabs X s' L :=
  ⟨h.nd, fun e he => by
    obtain ⟨p, b, h1, h2, h3, h4⟩ := h.cur e he
    have hlt := hL e he
    exact ⟨p, b, h1.cto k (fun hj => by have := hI _ hj; omega), h2.cto k (fun j hj hJ => by
      have := h4 j hj
      have := hI j hJ
      omega), h3, h4⟩⟩
theorem new_b {lib : Prims} (hl : lib.at 34 = none) (s : ASt) (x : Value) (l : List UInt8) (hx : Sees s 1 x l.length (ofBytes l)) :
    Runs Try.prog lib 34 [x] s fun v s' => v = cptr s.next ∧ (∃ b, Thing s' s.next [b, .int .i64 ((0 : Nat) : Int)] ∧ Sees s' 1 b l.length (ofBytes l) ∧ ∀ j, home b = some j → home x = some j) ∧ Stay s.next s s' ∧ s'.next = s.next + 1 := by
  refine Runs.enter 11 Try.func34 rfl hl rfl rfl ?_
  intro f hn hf
  have h0 : f.get 0 = x := hf 0
  clear hf
  obtain ⟨v', hv, hsee⟩ := hx.full Try.underlying27 szU8 .i64 .i64
  have hid := hx.fullId Try.underlying27 szU8 .i64 .i64 hv
  simp only [allW, allR, oneOf, evalAll, partsA, optA, Nat.reduceLT, Nat.reduceLeDiff, Nat.reduceEqDiff, Nat.reduceAdd, ↓reduceIte, hn, h0, hx.lenA Try.underlying27, hv, curZero (hsee _ hx).cell1]
  refine wstep_newPtr ?_
  intro s1 ht hst hnx
  simp only [allW, allR, wfn_ret, wfn_normal, oneOf, evalAll, partsA, optA, Nat.reduceLT, Nat.reduceLeDiff, Nat.reduceEqDiff, Nat.reduceAdd, ↓reduceIte, hn, Try.results34, List.length_cons, List.length_nil]
  exact ⟨⟨v', ht, hsee _ (hx.keeps hst), hid⟩, hst, hnx⟩
set_option maxHeartbeats 4000000 in
theorem half_any (base : Nat) (s : ASt) (i : Nat) (b : Value) (l : List UInt8) (p : Nat) (n : Int) (hc : CurB base s i b l p) (hb : base ≤ s.next) (hlen : l.length ≤ 4294967296) :
    Runs Try.prog libN 36 [tabV i, .int .i64 n] s fun v s' => v = .int .i64 (numAt l n 2) ∧ (∃ p', CurB base s' i b l p') ∧ Turns (cptr i) s s' := by
  refine Runs.enter 21 Try.func36 rfl rfl rfl rfl ?_
  intro f hn hf
  have h0 : f.get 0 = tabV i := hf 0
  have h1 : f.get 1 = .int .i64 n := hf 1
  clear hf
  simp (config := { maxSteps := 1000000, implicitDefEqProofs := false }) (disch := omega) only [allW, allR, oneOf, evalAll, partsA, optA, Nat.reduceLT, Nat.reduceLeDiff, Nat.reduceEqDiff, Nat.reduceAdd, ↓reduceIte, hn, h0, h1, szTab, tabCells]
  refine wstep_newPtr ?_
  intro s1 ht hst hnx
  have l0 := ht.load (P := Try.prog) agCurP (off := 0) (c := 2) rfl (by simp)
  have hd2 : [cptr i].length + 1 = 2 := rfl
  simp (config := { maxSteps := 1000000, implicitDefEqProofs := false }) (disch := omega) only [allW, allR, oneOf, evalAll, partsA, optA, Nat.reduceLT, Nat.reduceLeDiff, Nat.reduceEqDiff, Nat.reduceAdd, ↓reduceIte, hn, h0, h1, hd2, sffld0, l0]
  refine (seek_b (lib := libN) rfl base s1 i b l p n (hc.keeps hb hst) (by omega)).mono ?_
  rintro _ s2 ⟨rfl, hc2, ht2⟩
  have hlt := hc.1.lt
  by_cases c : 0 ≤ n ∧ n ≤ l.length
  · rw [if_pos c] at hc2
    have l02 := (ht.turns ht2 (cptr_ne (by omega))).load (P := Try.prog) agCurP (off := 0) (c := 2) rfl (by simp)
    simp (config := { maxSteps := 1000000, implicitDefEqProofs := false }) (disch := omega) only [allW, allR, oneOf, evalAll, partsA, optA, Nat.reduceLT, Nat.reduceLeDiff, Nat.reduceEqDiff, Nat.reduceAdd, ↓reduceIte, hn, h0, h1, eq_true c, sffld0, l02]
    refine (word_b (lib := libN) rfl rfl rfl rfl rfl rfl base s2 i b l n.toNat 2 hc2 (by have := ht2.next; omega) hlen).mono ?_
    rintro _ s3 ⟨rfl, hc3, ht3⟩
    have hT : Turns (cptr i) s s3 := Turns.after hst (ht2.trans ht3)
    by_cases d : n + 2 ≤ l.length
    · have d1 : (1 : Int) ≤ 2 ∧ (2 : Int) ≤ 7 ∧ (2 : Int) ≤ ((l.length - n.toNat : Nat) : Int) := by omega
      have d2 : (1 : Int) ≤ 2 ∧ (2 : Int) ≤ 7 := by omega
      have hv : numAt l n 2 = ((bigOf (takeIs l n.toNat 2) : Nat) : Int) := by
        unfold numAt
        rw [if_pos (by omega)]
        rw [show (2 : Int) = ((2 : Nat) : Int) from rfl, takeIs_at (by omega)]
      simp (config := { maxSteps := 1000000, implicitDefEqProofs := false }) (disch := omega) only [allW, allR, wfn_ret, wfn_normal, oneOf, evalAll, partsA, optA, Nat.reduceLT, Nat.reduceLeDiff, Nat.reduceEqDiff, Nat.reduceAdd, ↓reduceIte, hn, h0, h1, if_pos d2, eq_true d1, hv, extractA, List.getElem?_toArray, List.getElem?_cons_zero, List.getElem?_cons_succ, Try.results36]
      exact ⟨⟨_, hc3⟩, hT⟩
    · have d1 : ¬ ((1 : Int) ≤ 2 ∧ (2 : Int) ≤ 7 ∧ (2 : Int) ≤ ((l.length - n.toNat : Nat) : Int)) := by omega
      have hv : numAt l n 2 = -1 := by unfold numAt; rw [if_neg (by omega)]
      simp (config := { maxSteps := 1000000, implicitDefEqProofs := false }) (disch := omega) only [allW, allR, wfn_ret, wfn_normal, oneOf, evalAll, partsA, optA, Nat.reduceLT, Nat.reduceLeDiff, Nat.reduceEqDiff, Nat.reduceAdd, ↓reduceIte, hn, h0, h1, eq_false d1, hv, extractA, List.getElem?_toArray, List.getElem?_cons_zero, List.getElem?_cons_succ, Try.results36]
      exact ⟨⟨_, hc3⟩, hT⟩
  · have hv : numAt l n 2 = -1 := by unfold numAt; rw [if_neg (by omega)]
    simp (config := { maxSteps := 1000000, implicitDefEqProofs := false }) (disch := omega) only [allW, allR, wfn_ret, wfn_normal, oneOf, evalAll, partsA, optA, Nat.reduceLT, Nat.reduceLeDiff, Nat.reduceEqDiff, Nat.reduceAdd, ↓reduceIte, hn, h0, h1, eq_false c, hv, Try.results36]
    exact ⟨⟨_, hc2⟩, Turns.after hst ht2⟩
set_option maxHeartbeats 4000000 in
theorem full_any (base : Nat) (s : ASt) (i : Nat) (b : Value) (l : List UInt8) (p : Nat) (n : Int) (hc : CurB base s i b l p) (hb : base ≤ s.next) (hlen : l.length ≤ 4294967296) :
    Runs Try.prog libN 37 [tabV i, .int .i64 n] s fun v s' => v = .int .i64 (numAt l n 4) ∧ (∃ p', CurB base s' i b l p') ∧ Turns (cptr i) s s' := by
  refine Runs.enter 21 Try.func37 rfl rfl rfl rfl ?_
  intro f hn hf
  have h0 : f.get 0 = tabV i := hf 0
  have h1 : f.get 1 = .int .i64 n := hf 1
  clear hf
  simp (config := { maxSteps := 1000000, implicitDefEqProofs := false }) (disch := omega) only [allW, allR, oneOf, evalAll, partsA, optA, Nat.reduceLT, Nat.reduceLeDiff, Nat.reduceEqDiff, Nat.reduceAdd, ↓reduceIte, hn, h0, h1, szTab, tabCells]
  refine wstep_newPtr ?_
  intro s1 ht hst hnx
  have l0 := ht.load (P := Try.prog) agCurP (off := 0) (c := 2) rfl (by simp)
  have hd2 : [cptr i].length + 1 = 2 := rfl
  simp (config := { maxSteps := 1000000, implicitDefEqProofs := false }) (disch := omega) only [allW, allR, oneOf, evalAll, partsA, optA, Nat.reduceLT, Nat.reduceLeDiff, Nat.reduceEqDiff, Nat.reduceAdd, ↓reduceIte, hn, h0, h1, hd2, sffld0, l0]
  refine (seek_b (lib := libN) rfl base s1 i b l p n (hc.keeps hb hst) (by omega)).mono ?_
  rintro _ s2 ⟨rfl, hc2, ht2⟩
  have hlt := hc.1.lt
  by_cases c : 0 ≤ n ∧ n ≤ l.length
  · rw [if_pos c] at hc2
    have l02 := (ht.turns ht2 (cptr_ne (by omega))).load (P := Try.prog) agCurP (off := 0) (c := 2) rfl (by simp)
    simp (config := { maxSteps := 1000000, implicitDefEqProofs := false }) (disch := omega) only [allW, allR, oneOf, evalAll, partsA, optA, Nat.reduceLT, Nat.reduceLeDiff, Nat.reduceEqDiff, Nat.reduceAdd, ↓reduceIte, hn, h0, h1, eq_true c, sffld0, l02]
    refine (word_b (lib := libN) rfl rfl rfl rfl rfl rfl base s2 i b l n.toNat 4 hc2 (by have := ht2.next; omega) hlen).mono ?_
    rintro _ s3 ⟨rfl, hc3, ht3⟩
    have hT : Turns (cptr i) s s3 := Turns.after hst (ht2.trans ht3)
    by_cases d : n + 4 ≤ l.length
    · have d1 : (1 : Int) ≤ 4 ∧ (4 : Int) ≤ 7 ∧ (4 : Int) ≤ ((l.length - n.toNat : Nat) : Int) := by omega
      have d2 : (1 : Int) ≤ 4 ∧ (4 : Int) ≤ 7 := by omega
      have hv : numAt l n 4 = ((bigOf (takeIs l n.toNat 4) : Nat) : Int) := by
        unfold numAt
        rw [if_pos (by omega)]
        rw [show (4 : Int) = ((4 : Nat) : Int) from rfl, takeIs_at (by omega)]
      simp (config := { maxSteps := 1000000, implicitDefEqProofs := false }) (disch := omega) only [allW, allR, wfn_ret, wfn_normal, oneOf, evalAll, partsA, optA, Nat.reduceLT, Nat.reduceLeDiff, Nat.reduceEqDiff, Nat.reduceAdd, ↓reduceIte, hn, h0, h1, if_pos d2, eq_true d1, hv, extractA, List.getElem?_toArray, List.getElem?_cons_zero, List.getElem?_cons_succ, Try.results37]
      exact ⟨⟨_, hc3⟩, hT⟩
    · have d1 : ¬ ((1 : Int) ≤ 4 ∧ (4 : Int) ≤ 7 ∧ (4 : Int) ≤ ((l.length - n.toNat : Nat) : Int)) := by omega
      have hv : numAt l n 4 = -1 := by unfold numAt; rw [if_neg (by omega)]
      simp (config := { maxSteps := 1000000, implicitDefEqProofs := false }) (disch := omega) only [allW, allR, wfn_ret, wfn_normal, oneOf, evalAll, partsA, optA, Nat.reduceLT, Nat.reduceLeDiff, Nat.reduceEqDiff, Nat.reduceAdd, ↓reduceIte, hn, h0, h1, eq_false d1, hv, extractA, List.getElem?_toArray, List.getElem?_cons_zero, List.getElem?_cons_succ, Try.results37]
      exact ⟨⟨_, hc3⟩, hT⟩
  · have hv : numAt l n 4 = -1 := by unfold numAt; rw [if_neg (by omega)]
    simp (config := { maxSteps := 1000000, implicitDefEqProofs := false }) (disch := omega) only [allW, allR, wfn_ret, wfn_normal, oneOf, evalAll, partsA, optA, Nat.reduceLT, Nat.reduceLeDiff, Nat.reduceEqDiff, Nat.reduceAdd, ↓reduceIte, hn, h0, h1, eq_false c, hv, Try.results37]
    exact ⟨⟨_, hc2⟩, Turns.after hst ht2⟩
/-- Of one of many. -/
theorem half_tab {X : List Nat} {s : ASt} {L : List (Nat × List UInt8)} (h : Tabs X s L) {i : Nat} {l : List UInt8} (hm : (i, l) ∈ L) (n : Int) (hlen : l.length ≤ 4294967296) :
    Runs Try.prog libN 36 [tabV i, .int .i64 n] s fun v s' => v = .int .i64 (numAt l n 2) ∧ Tabs X s' L ∧ CTo (idsT L) s s' := by
  obtain ⟨p, b, hc, hb⟩ := (h.cur _ hm).curB
  refine (half_any i s i b l p n hc (Nat.le_of_lt hc.1.lt) hlen).mono ?_
  rintro v s' ⟨rfl, ⟨p', h1⟩, h2⟩
  exact ⟨rfl, h.turn hm (h1.curs hb) (turns_cto h2), (turns_cto h2).mono (fun j hj => by rw [List.mem_singleton.mp hj]; exact List.mem_map_of_mem hm)⟩
theorem full_tab {X : List Nat} {s : ASt} {L : List (Nat × List UInt8)} (h : Tabs X s L) {i : Nat} {l : List UInt8} (hm : (i, l) ∈ L) (n : Int) (hlen : l.length ≤ 4294967296) :
    Runs Try.prog libN 37 [tabV i, .int .i64 n] s fun v s' => v = .int .i64 (numAt l n 4) ∧ Tabs X s' L ∧ CTo (idsT L) s s' := by
  obtain ⟨p, b, hc, hb⟩ := (h.cur _ hm).curB
  refine (full_any i s i b l p n hc (Nat.le_of_lt hc.1.lt) hlen).mono ?_
  rintro v s' ⟨rfl, ⟨p', h1⟩, h2⟩
  exact ⟨rfl, h.turn hm (h1.curs hb) (turns_cto h2), (turns_cto h2).mono (fun j hj => by rw [List.mem_singleton.mp hj]; exact List.mem_map_of_mem hm)⟩
theorem len_tab {X : List Nat} {s : ASt} {L : List (Nat × List UInt8)} (h : Tabs X s L) {i : Nat} {l : List UInt8} (hm : (i, l) ∈ L) :
    Runs Try.prog libN 35 [cptr i] s fun v s' => v = .int .i64 l.length ∧ s' = s := by
  obtain ⟨p, b, hc, hb⟩ := (h.cur _ hm).curB
  exact len_any (lib := libN) rfl i s i l p ⟨b, hc⟩
end Go.Proofs.Ytpdkppimlcbhlaa
