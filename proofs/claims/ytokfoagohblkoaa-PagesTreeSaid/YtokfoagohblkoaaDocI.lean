import Derived.Test.YtokfoagohblkoaaDocE
set_option linter.unusedSimpArgs false
set_option linter.unusedVariables false
set_option maxRecDepth 100000
namespace Go.Cl
inductive WalksN (D : List (Int × O)) : Nat → List Int → List Int → List Int → Prop
  | done (l : List Int) : WalksN D 0 [] l l
  | skip (k : Nat) (n : Int) (st l r : List Int) (h : (findD D n).2 = false ∨ n ∈ l) (w : WalksN D k st l r) : WalksN D (k + 1) (n :: st) l r
  | meet (k : Nat) (n : Int) (st l r : List Int) (h1 : (findD D n).2 = true) (h2 : n ∉ l) (w : WalksN D k (refsO (findD D n).1 ++ st) (l ++ [n]) r) : WalksN D (k + 1) (n :: st) l r
theorem WalksN.size {D : List (Int × O)} {k : Nat} {st l r : List Int} (h : WalksN D k st l r) : l.length ≤ r.length ∧ r.length ≤ l.length + k := by
  induction h with
  | done => exact ⟨Nat.le_refl _, Nat.le_refl _⟩
  | skip k n st l r _ _ ih => omega
  | meet k n st l r _ _ _ ih => rw [List.length_append, List.length_singleton] at ih; omega
theorem WalksN.only {D : List (Int × O)} {k : Nat} {st l r : List Int} (h : WalksN D k st l r) : ∀ {k' : Nat} {r' : List Int}, WalksN D k' st l r' → r = r' := by
  induction h with
  | done l => intro k' r' h'; cases h'; rfl
  | skip k n st l r h w ih =>
    intro k' r' h'
    cases h' with
    | skip _ _ _ _ _ _ w' => exact ih w'
    | meet _ _ _ _ _ h1 h2 w' =>
      rcases h with h | h
      · rw [h] at h1; cases h1
      · exact absurd h h2
  | meet k n st l r h1 h2 w ih =>
    intro k' r' h'
    cases h' with
    | skip _ _ _ _ _ h w' =>
      rcases h with h | h
      · rw [h] at h1; cases h1
      · exact absurd h h2
    | meet _ _ _ _ _ _ _ w' => exact ih w'
noncomputable def namedD (D : List (Int × O)) (T l : List Int) : List Int := T ++ l.flatMap fun n => refsO (findD D n).1
structure MetAll (D : List (Int × O)) (T l : List Int) : Prop where
  once : l.Nodup
  there : ∀ n ∈ l, (findD D n).2 = true
  ahead : ∀ i (h : i < l.length), l[i] ∈ namedD D T (l.take i)
theorem namedD_snoc (D : List (Int × O)) (T l : List Int) (n : Int) : namedD D T (l ++ [n]) = namedD D T l ++ refsO (findD D n).1 := by
  unfold namedD; simp
theorem WalksN.all {D : List (Int × O)} {T : List Int} {k : Nat} {st l r : List Int} (h : WalksN D k st l r) : MetAll D T l → (∀ n ∈ st, n ∈ namedD D T l) → (∀ n ∈ namedD D T l, (findD D n).2 = true → n ∈ l ∨ n ∈ st) → MetAll D T r ∧ ∀ n ∈ namedD D T r, (findD D n).2 = true → n ∈ r := by
  induction h with
  | done l => intro h1 _ h3; exact ⟨h1, fun n hn hf => (h3 n hn hf).elim id (fun h => by cases h)⟩
  | skip k n st l r h w ih =>
    intro h1 h2 h3
    refine ih h1 (fun m hm => h2 m (List.mem_cons_of_mem _ hm)) (fun m hm hf => ?_)
    rcases h3 m hm hf with h4 | h4
    · exact .inl h4
    · rcases List.mem_cons.1 h4 with rfl | h4
      · rcases h with h | h
        · rw [h] at hf; cases hf
        · exact .inl h
      · exact .inr h4
  | meet k n st l r c1 c2 w ih =>
    intro h1 h2 h3
    refine ih ⟨?_, ?_, ?_⟩ ?_ ?_
    · rw [List.nodup_append]
      refine ⟨h1.once, by simp, fun a ha b hb => ?_⟩
      rw [List.mem_singleton] at hb
      subst hb
      intro e; subst e; exact c2 ha
    · intro m hm
      rcases List.mem_append.1 hm with hm | hm
      · exact h1.there m hm
      · rw [List.mem_singleton] at hm; subst hm; exact c1
    · intro i hi
      by_cases hil : i < l.length
      · rw [List.getElem_append_left hil, List.take_append_of_le_length (Nat.le_of_lt hil)]
        exact h1.ahead i hil
      · have : i = l.length := by rw [List.length_append, List.length_singleton] at hi; omega
        subst this
        rw [List.take_append_of_le_length (Nat.le_refl _), List.take_length]
        simpa using h2 n (List.mem_cons_self ..)
    · intro m hm
      rw [namedD_snoc]
      rcases List.mem_append.1 hm with hm | hm
      · exact List.mem_append_right _ hm
      · exact List.mem_append_left _ (h2 m (List.mem_cons_of_mem _ hm))
    · intro m hm hf
      rw [namedD_snoc] at hm
      rcases List.mem_append.1 hm with hm | hm
      · rcases h3 m hm hf with h4 | h4
        · exact .inl (List.mem_append_left _ h4)
        · rcases List.mem_cons.1 h4 with rfl | h4
          · exact .inl (List.mem_append_right _ (List.mem_singleton.2 rfl))
          · exact .inr (List.mem_append_right _ h4)
      · exact .inr (List.mem_append_left _ hm)
structure AtTo (D : List (Int × O)) (i : Nat) (T : List (Int × Value)) : Prop where
  found : ∀ n v, seekJ n T = some v → ∃ (j : Nat) (h : j < D.length), j < i ∧ v = .int .i64 (j : Nat) ∧ D[j].1 = n ∧ ∀ j' (h' : j' < D.length), j' < j → D[j'].1 ≠ n
  none : ∀ n, seekJ n T = Option.none → ∀ j (h : j < D.length), j < i → D[j].1 ≠ n
theorem AtTo.start (D : List (Int × O)) : AtTo D 0 [] := ⟨fun n v h => (by cases h), fun n _ j _ h => by omega⟩
theorem AtTo.had {D : List (Int × O)} {i : Nat} {T : List (Int × Value)} (h : AtTo D i T) (hi : i < D.length) (hs : (seekJ D[i].1 T).isSome = true) : AtTo D (i + 1) T := by
  refine ⟨fun n v hv => ?_, fun n hn j hj hji => ?_⟩
  · obtain ⟨j, hj, h1, h2⟩ := h.found n v hv
    exact ⟨j, hj, by omega, h2⟩
  · by_cases e : j = i
    · subst e
      intro q
      rw [q, hn] at hs
      cases hs
    · exact h.none n hn j hj (by omega)
theorem AtTo.new {D : List (Int × O)} {i : Nat} {T : List (Int × Value)} (h : AtTo D i T) (hi : i < D.length) (hs : seekJ D[i].1 T = Option.none) : AtTo D (i + 1) (putJ D[i].1 (.int .i64 (i : Nat)) T) := by
  refine ⟨fun n v hv => ?_, fun n hn j hj hji => ?_⟩
  · rw [seekJ_put] at hv
    split at hv
    · rename_i e
      injection hv with hv
      subst e
      exact ⟨i, hi, by omega, hv.symm, rfl, fun j' h' hlt => h.none _ hs j' h' hlt⟩
    · obtain ⟨j, hj, h1, h2⟩ := h.found n v hv
      exact ⟨j, hj, by omega, h2⟩
  · rw [seekJ_put] at hn
    split at hn
    · cases hn
    · rename_i e
      by_cases ej : j = i
      · subst ej; exact fun q => e q.symm
      · exact h.none n hn j hj (by omega)
theorem AtTo.some {D : List (Int × O)} {T : List (Int × Value)} (h : AtTo D D.length T) {n : Int} (hf : (findD D n).2 = true) : ∃ (j : Nat) (hj : j < D.length), seekJ n T = Option.some (.int .i64 (j : Nat)) ∧ findD D n = (D[j].2, true) := by
  cases hs : seekJ n T with
  | none =>
    have := findD_none (fun j hj => h.none n hs j hj hj)
    rw [this] at hf; cases hf
  | some v =>
    obtain ⟨j, hj, -, rfl, h1, h2⟩ := h.found n v hs
    exact ⟨j, hj, rfl, findD_at hj h1 (fun j' h' => h2 j' (Nat.lt_trans h' hj) h')⟩
theorem AtTo.gone {D : List (Int × O)} {T : List (Int × Value)} (h : AtTo D D.length T) {n : Int} (hf : (findD D n).2 = false) : seekJ n T = Option.none := by
  cases hs : seekJ n T with
  | none => rfl
  | some v =>
    obtain ⟨j, hj, -, rfl, h1, h2⟩ := h.found n v hs
    rw [findD_at hj h1 (fun j' h' => h2 j' (Nat.lt_trans h' hj) h')] at hf
    cases hf
structure MetTo (l : List Int) (T : List (Int × Value)) : Prop where
  found : ∀ n v, seekJ n T = some v → ∃ (j : Nat) (h : j < l.length), l[j] = n ∧ v = .int .i64 ((j + 1 : Nat) : Int)
  none : ∀ n, seekJ n T = Option.none → n ∉ l
theorem MetTo.start : MetTo [] [] := ⟨fun n v h => (by cases h), fun n _ h => (by cases h)⟩
theorem MetTo.snoc {l : List Int} {T : List (Int × Value)} (h : MetTo l T) (n : Int) : MetTo (l ++ [n]) (putJ n (.int .i64 ((l.length + 1 : Nat) : Int)) T) := by
  refine ⟨fun m v hv => ?_, fun m hm => ?_⟩
  · rw [seekJ_put] at hv
    split at hv
    · rename_i e
      injection hv with hv
      subst e
      exact ⟨l.length, by simp, by simp, hv.symm⟩
    · obtain ⟨j, hj, h1, h2⟩ := h.found m v hv
      exact ⟨j, by rw [List.length_append]; omega, by rw [List.getElem_append_left hj]; exact h1, h2⟩
  · rw [seekJ_put] at hm
    split at hm
    · cases hm
    · rename_i e
      rw [List.mem_append, List.mem_singleton]
      exact fun q => q.elim (h.none m hm) e
theorem MetTo.is {l : List Int} {T : List (Int × Value)} (h : MetTo l T) (n : Int) : (seekJ n T).isSome = decide (n ∈ l) := by
  cases hs : seekJ n T with
  | none => rw [decide_eq_false (h.none n hs)]; rfl
  | some v =>
    obtain ⟨j, hj, h1, -⟩ := h.found n v hs
    rw [decide_eq_true (h1 ▸ List.getElem_mem hj)]; rfl
theorem newMapJ (s : ASt) : ∃ s', s.new (.map []) = s' ∧ MapJ s' s.next [] ∧ Stay s.next s s' ∧ s'.next = s.next + 1 := by
  refine ⟨_, rfl, ⟨by rw [next_new]; omega, ?_⟩, Stay.new s _, rfl⟩
  simp only [ASt.map?, ASt.new, Tr.get_set_self _ _ _ _ (deep (by omega))]
  rfl
end Go.Cl
namespace Go.Cl
def wkC (D : Dc) (mv : Value) (tc : List Value) (iv : Value) (a m : Nat) (lv : Value) : List Value := docC D mv tc iv ++ [.map (some a), .map (some m), lv]
structure WkIs (F : Nat → Prop) (base : Nat) (s : ASt) (w : Nat) (D : Dc) (mv : Value) (tc : List Value) (iv : Value) (ic : List Value) (a m : Nat) (TA TM : List (Int × Value)) (lv : Value) (l : List Int) : Prop where
  doc : DocIs F s mv tc iv ic D
  low : ∀ j, F j → j < base
  thing : Thing s w (wkC D mv tc iv a m lv)
  at_ : MapJ s a TA
  met : MapJ s m TM
  list : Own s 1 lv l.length (intsV l)
  hw : base ≤ w
  ha : base ≤ a
  hm : base ≤ m
  hl : Fresh base lv
  wa : w ≠ a
  wm : w ≠ m
  am : a ≠ m
  lw : idOf lv ≠ some w
  la : idOf lv ≠ some a
  lm : idOf lv ≠ some m
section
variable {F : Nat → Prop} {base : Nat} {s s' : ASt} {w : Nat} {D : Dc} {mv : Value} {tc : List Value} {iv : Value} {ic : List Value} {a m : Nat} {TA TM : List (Int × Value)} {lv : Value} {l : List Int}
theorem WkIs.keeps (h : WkIs F base s w D mv tc iv ic a m TA TM lv l) (k : Stay s.next s s') : WkIs F base s' w D mv tc iv ic a m TA TM lv l :=
  { h with doc := h.doc.keeps k, thing := h.thing.keeps k, at_ := h.at_.keeps k, met := h.met.keeps k, list := h.list.keeps k }
theorem WkIs.turns (h : WkIs F base s w D mv tc iv ic a m TA TM lv l) {u : Value} (k : Turns u s s') (hu : Fresh base u) (h1 : idOf u ≠ some w) (h2 : idOf u ≠ some a) (h3 : idOf u ≠ some m) (h4 : ∀ i, idOf lv = some i → idOf u ≠ some i) : WkIs F base s' w D mv tc iv ic a m TA TM lv l :=
  { h with
    doc := h.doc.turns k (fun j hj e => by have := hu j e; have := h.low j hj; omega)
    thing := h.thing.turns k h1
    at_ := h.at_.turns k h2
    met := h.met.turns k h3
    list := h.list.turns k h4 }
end
end Go.Cl
namespace Go.Proofs.Ytokfoagohblkoaa
open Go.Cl Go.Lib
end Go.Proofs.Ytokfoagohblkoaa
namespace Go.Cl
structure ApartW (x lv : Value) (w a m : Nat) : Prop where
  w : idOf x ≠ some w
  a : idOf x ≠ some a
  m : idOf x ≠ some m
  l : ∀ i, idOf lv = some i → idOf x ≠ some i
theorem ApartW.late {x lv : Value} {w a m n : Nat} (h : ∀ i, idOf x = some i → n ≤ i) (hw : w < n) (ha : a < n) (hm : m < n) (hl : ∀ i, idOf lv = some i → i < n) : ApartW x lv w a m :=
  ⟨fun e => by have := h _ e; omega, fun e => by have := h _ e; omega, fun e => by have := h _ e; omega, fun i hi e => by have := h _ e; have := hl i hi; omega⟩
theorem ApartW.same {x x' lv : Value} {w a m n : Nat} (h : ApartW x lv w a m) (hi : idOf x' = idOf x ∨ ∃ i, idOf x' = some i ∧ n ≤ i) (hw : w < n) (ha : a < n) (hm : m < n) (hl : ∀ i, idOf lv = some i → i < n) : ApartW x' lv w a m := by
  rcases hi with e | ⟨i, e, hn⟩
  · exact ⟨by rw [e]; exact h.w, by rw [e]; exact h.a, by rw [e]; exact h.m, by rw [e]; exact h.l⟩
  · exact ApartW.late (n := n) (fun j hj => by rw [e] at hj; injection hj with hj; omega) hw ha hm hl
theorem ApartW.list {x lv lv' : Value} {w a m n : Nat} (h : ApartW x lv w a m) (hi : idOf lv' = idOf lv ∨ ∃ i, idOf lv' = some i ∧ n ≤ i) (hx : ∀ i, idOf x = some i → i < n) : ApartW x lv' w a m := by
  refine ⟨h.w, h.a, h.m, fun j hj => ?_⟩
  rcases hi with e | ⟨i, e, hn⟩
  · exact h.l j (by rw [← e]; exact hj)
  · rw [e] at hj; injection hj with hj
    intro q; have := hx _ q; omega
section
variable {F : Nat → Prop} {base : Nat} {s s' s2 s3 : ASt} {w : Nat} {D : Dc} {mv : Value} {tc : List Value} {iv : Value} {ic : List Value} {a m : Nat} {TA TM : List (Int × Value)} {lv lv' : Value} {l l' : List Int}
theorem turns_of_put {i : Nat} (h1 : s'.next = s.next) (h2 : ∀ j, j ≠ i → s'.heap.get j = s.heap.get j) : Turns (.pointer (some ⟨i, 0, none⟩)) s s' := Turns.ofPut h1 h2
theorem WkIs.grow (h : WkIs F base s w D mv tc iv ic a m TA TM lv l) (hb : base ≤ s.next) (h2 : Own s2 1 lv' l'.length (intsV l')) (hF2 : Fresh base lv') (ht : Turns lv s s2) (hid : idOf lv' = idOf lv ∨ ∃ i, idOf lv' = some i ∧ s.next ≤ i)
    (h3 : Thing s3 w (wkC D mv tc iv a m lv')) (hn : s3.next = s2.next) (ho : ∀ j, j ≠ w → s3.heap.get j = s2.heap.get j) : WkIs F base s3 w D mv tc iv ic a m TA TM lv' l' := by
  have hlw : idOf lv' ≠ some w := by
    rcases hid with e | ⟨i, e, hi⟩
    · rw [e]; exact h.lw
    · rw [e]; intro q; injection q with q; have := h.thing.lt; omega
  have hla : idOf lv' ≠ some a := by
    rcases hid with e | ⟨i, e, hi⟩
    · rw [e]; exact h.la
    · rw [e]; intro q; injection q with q; have := h.at_.lt; omega
  have hlm : idOf lv' ≠ some m := by
    rcases hid with e | ⟨i, e, hi⟩
    · rw [e]; exact h.lm
    · rw [e]; intro q; injection q with q; have := h.met.lt; omega
  exact
  { doc := (h.doc.turns ht (fun j hj e => by have := h.hl j e; have := h.low j hj; omega)).turns (turns_of_put hn ho) (fun j hj e => by
      have e : some w = some j := e
      injection e with e; have := h.low j hj; have := h.hw; omega)
    low := h.low
    thing := h3
    at_ := (h.at_.turns ht h.la).ofPut hn ho h.wa
    met := (h.met.turns ht h.lm).ofPut hn ho h.wm
    list := h2.ofPut hn ho hlw
    hw := h.hw
    ha := h.ha
    hm := h.hm
    hl := hF2
    wa := h.wa
    wm := h.wm
    am := h.am
    lw := hlw
    la := hla
    lm := hlm }
end
end Go.Cl
namespace Go.Proofs.Ytokfoagohblkoaa
open Go.Cl Go.Lib
end Go.Proofs.Ytokfoagohblkoaa
namespace Go.Proofs.Ytokfoagohblkoaa
open Go.Cl Go.Lib
end Go.Proofs.Ytokfoagohblkoaa
namespace Go.Cl
end Go.Cl
namespace Go.Cl
theorem valEqL_all : ∀ {l : List Value}, valEqL l l = true → ∀ v ∈ l, valEq1 v v = true
  | v :: l, h, w, hw => by
    simp only [valEqL, Bool.and_eq_true] at h
    rcases List.mem_cons.1 hw with rfl | hw
    · exact h.1
    · exact valEqL_all h.2 w hw
theorem valEqL_self : ∀ {l : List Value}, (∀ v ∈ l, valEq1 v v = true) → valEqL l l = true
  | [], _ => rfl
  | v :: l, h => by
    simp only [valEqL, Bool.and_eq_true]
    exact ⟨h v (List.mem_cons_self ..), valEqL_self (fun w hw => h w (List.mem_cons_of_mem _ hw))⟩
theorem DocIs.self {F : Nat → Prop} {s : ASt} {mv iv : Value} {tc ic : List Value} {D : Dc} (h : DocIs F s mv tc iv ic D) : valEq (.agg (docC D mv tc iv).toArray) (.agg (docC D mv tc iv).toArray) = true := by
  show valEqL (docC D mv tc iv) (docC D mv tc iv) = true
  have ht : valEqL tc tc = true := h.trailer.self
  refine valEqL_self (fun v hv => ?_)
  simp only [docC, List.mem_cons, List.mem_append, List.not_mem_nil, or_false] at hv
  rcases hv with rfl | rfl | rfl | hv | rfl
  · simp [valEq1]
  · exact h.mark.self1
  · simp [valEq1]
  · exact valEqL_all ht v hv
  · exact h.items.self1
end Go.Cl
