/-
  Pages: a tree in plain words: what stands below a node, and that it is walked in the order of its numbers.
-/
import Derived.Test.YtokfoagohblkoaaPgM
import Derived.Test.YtokfoagohblkoaaPgD
namespace Go.Cl
theorem find_others (k k' : List UInt8) (d : List (List UInt8 × O)) : (others k d).find? (fun y => y.1 == k') = if k' = k then none else d.find? (fun y => y.1 == k') := by
  unfold others
  by_cases h : k' = k
  · rw [if_pos h, List.find?_eq_none]
    intro x hx
    have := (List.mem_filter.1 hx).2
    subst h
    simpa using this
  · rw [if_neg h, List.find?_filter]
    congr 1
    funext x
    by_cases hx : x.1 = k'
    · have : ¬ x.1 = k := fun e => h (hx.symm.trans e)
      simp [hx, h]
    · simp [hx]
theorem find_put (D : List (List UInt8 × O)) (e : List UInt8 × O) (k : List UInt8) : findE (putE D e) k = if k = e.1 then (if e.2.kind = 0 then O.none else e.2) else findE D k := by
  have hf : (putE D e).find? (fun y => y.1 == k) = if k = e.1 then (if e.2.kind = 0 then none else some e) else D.find? (fun y => y.1 == k) := by
    unfold putE
    rw [List.find?_append, List.find?_append, find_others, find_others]
    by_cases h : k = e.1
    · simp only [if_pos h]
      by_cases h0 : e.2.kind = 0
      · simp [h0]
      · simp [h0, h]
    · simp only [if_neg h]
      have : (if e.2.kind = 0 then [] else [e]).find? (fun y => y.1 == k) = none := by
        split
        · rfl
        · rw [List.find?_eq_none]
          intro x hx
          obtain rfl : x = e := by simpa using hx
          simpa using fun q => h q.symm
      rw [this]
      have h2 := List.find?_append (xs := D.take (atE D e.1)) (ys := D.drop (atE D e.1)) (p := fun y => y.1 == k)
      rw [List.take_append_drop] at h2
      rw [h2]
      simp
  unfold findE
  rw [hf]
  by_cases h : k = e.1
  · simp only [if_pos h]
    by_cases h0 : e.2.kind = 0
    · simp [h0]
    · simp [h0]
  · simp only [if_neg h]
theorem setO_kind (o : O) (L : List (List UInt8 × O)) : (setO o L).kind = o.kind := by
  unfold setO
  split
  · cases o; rfl
  · rfl
theorem getO_set {o : O} (h : o.kind = 7) (k : List UInt8) (x : O) (hx : x.kind ≠ 0) (k' : List UInt8) : getO (setO o [(k, x)]) k' = if k' = k then x else getO o k' := by
  cases o with
  | mk kk n b l d =>
    have h : kk = 7 := h
    subst h
    have e1 : setO (.mk 7 n b l d) [(k, x)] = .mk 7 n b l (putE d (k, x)) := rfl
    rw [e1]
    show findE (putE d (k, x)) k' = _
    rw [find_put]
    simp only [if_neg hx]
    rfl
theorem heir1_kind (o above : O) (k : List UInt8) : (heir1 o above k).kind = above.kind := by
  unfold heir1
  split
  · rfl
  · exact setO_kind _ _
theorem heir1_get {o above : O} (h : above.kind = 7) (k k' : List UInt8) : getO (heir1 o above k) k' = if k' = k ∧ (getO o k).kind ≠ 0 then getO o k else getO above k' := by
  unfold heir1
  by_cases h0 : (getO o k).kind = 0
  · rw [if_pos h0, if_neg (fun q => q.2 h0)]
  · rw [if_neg h0, getO_set h k _ h0]
    by_cases hk : k' = k
    · rw [if_pos hk, if_pos ⟨hk, h0⟩]
    · rw [if_neg hk, if_neg (fun q => hk q.1)]
theorem heirO_kind (o above : O) : (heirO o above).kind = above.kind := by
  simp only [heirO, List.foldl_cons, List.foldl_nil, heir1_kind]
theorem heirO_get {o above : O} (h : above.kind = 7) {k : List UInt8} (hk : k = kRes ∨ k = kMed ∨ k = kCrop ∨ k = kRot) : getO (heirO o above) k = if (getO o k).kind ≠ 0 then getO o k else getO above k := by
  simp only [heirO, List.foldl_cons, List.foldl_nil]
  have h1 := (heir1_kind o above kRes).trans h
  have h2 := (heir1_kind o _ kMed).trans h1
  have h3 := (heir1_kind o _ kCrop).trans h2
  rw [heir1_get h3, heir1_get h2, heir1_get h1, heir1_get h]
  have n1 : kRes ≠ kMed := by decide
  have n2 : kRes ≠ kCrop := by decide
  have n3 : kRes ≠ kRot := by decide
  have n4 : kMed ≠ kCrop := by decide
  have n5 : kMed ≠ kRot := by decide
  have n6 : kCrop ≠ kRot := by decide
  rcases hk with rfl | rfl | rfl | rfl
  · simp [n1, n2, n3]
  · simp [n4, n5, n1.symm]
  · simp [n6, n2.symm, n4.symm]
  · simp [n3.symm, n5.symm, n6.symm]
def refsK (ks : List Nat) : List O := ks.map fun k : Nat => .mk 9 (k : Int) [] [] []
def turnO (t : Int) : O := .mk 2 (t - 360) [] [] []
def Turn (t : Int) : Prop := t = 0 ∨ t = 90 ∨ t = 180 ∨ t = 270
structure Plain (o : O) (r : Option Int) : Prop where
  kind : o.kind = 7
  med : (getO o kMed).kind = 0
  crop : (getO o kCrop).kind = 0
  res : (getO o kRes).kind = 0
  rot : (r = none ∧ (getO o kRot).kind = 0) ∨ ∃ t, r = some t ∧ Turn t ∧ getO o kRot = turnO t
def PageAt (D : List (Int × O)) (n : Nat) (r : Option Int) : Prop := ∃ o, findD D n = (o, true) ∧ Plain o r ∧ getO o kType = .mk 5 0 kPage [] []
def NodeAt (D : List (Int × O)) (n : Nat) (r : Option Int) (ks : List Nat) : Prop := ∃ o, findD D n = (o, true) ∧ Plain o r ∧ getO o kType = .mk 5 0 kPages [] [] ∧ getO o kKids = .mk 6 0 [] (refsK ks) []
inductive RepK (D : List (Int × O)) : Nat → Nat → Int → List Nat → List (Nat × Int) → Prop
  | nil (a : Nat) (t : Int) : RepK D a a t [] []
  | page {a e : Nat} {t : Int} {r : Option Int} {ks : List Nat} {P : List (Nat × Int)} (h : PageAt D a r) (k : RepK D (a + 1) e t ks P) : RepK D a e t (a :: ks) ((a, r.getD t) :: P)
  | node {a b e : Nat} {t : Int} {r : Option Int} {k1 ks : List Nat} {P1 P : List (Nat × Int)} (h : NodeAt D a r k1) (h1 : RepK D (a + 1) b (r.getD t) k1 P1) (k : RepK D b e t ks P) : RepK D a e t (a :: ks) (P1 ++ P)
theorem RepK.le {D : List (Int × O)} {a e : Nat} {t : Int} {ks : List Nat} {P : List (Nat × Int)} (h : RepK D a e t ks P) : a ≤ e := by
  induction h with
  | nil => exact Nat.le_refl _
  | page _ _ ih => omega
  | node _ _ _ ih1 ih2 => omega
theorem RepK.mono {D D' : List (Int × O)} {a e : Nat} {t : Int} {ks : List Nat} {P : List (Nat × Int)} (h : RepK D a e t ks P) : (∀ m : Nat, a ≤ m → m < e → findD D' m = findD D m) → RepK D' a e t ks P := by
  induction h with
  | nil a t => exact fun _ => .nil a t
  | page h k ih =>
    intro hm
    have := k.le
    obtain ⟨o, h1, h2⟩ := h
    exact .page ⟨o, (hm _ (Nat.le_refl _) (by omega)).trans h1, h2⟩ (ih fun m h1 h2 => hm m (by omega) h2)
  | node h k1 k ih1 ih2 =>
    intro hm
    have := k.le
    have := k1.le
    obtain ⟨o, h1, h2⟩ := h
    exact .node ⟨o, (hm _ (Nat.le_refl _) (by omega)).trans h1, h2⟩ (ih1 fun m h1 h2 => hm m (by omega) (by omega)) (ih2 fun m h1 h2 => hm m (by omega) h2)
theorem RepK.snoc {D : List (Int × O)} {a b e : Nat} {t : Int} {ks k2 : List Nat} {P P2 : List (Nat × Int)} (h : RepK D a b t ks P) : RepK D b e t k2 P2 → RepK D a e t (ks ++ k2) (P ++ P2) := by
  induction h with
  | nil => exact fun k => k
  | page h k ih => exact fun k2 => .page h (ih k2)
  | node h k1 k _ ih2 =>
    intro k2
    rw [List.append_assoc]
    exact .node h k1 (ih2 k2)
def boxO : O := .mk 6 0 [] (rO [(2, 0), (2, 0), (2, 1), (2, 1)]) []
structure Inh (t : Int) (above : O) : Prop where
  kind : above.kind = 7
  med : getO above kMed = boxO
  crop : (getO above kCrop).kind = 0
  res : (getO above kRes).kind = 0
  rot : (t = 0 ∧ (getO above kRot).kind = 0) ∨ (Turn t ∧ getO above kRot = turnO t)
theorem Inh.heir {t : Int} {above o : O} {r : Option Int} (h : Inh t above) (ho : Plain o r) : Inh (r.getD t) (heirO o above) := by
  refine ⟨(heirO_kind _ _).trans h.kind, ?_, ?_, ?_, ?_⟩
  · rw [heirO_get h.kind (.inr (.inl rfl)), if_neg (fun q => q ho.med)]; exact h.med
  · rw [heirO_get h.kind (.inr (.inr (.inl rfl))), if_neg (fun q => q ho.crop)]; exact h.crop
  · rw [heirO_get h.kind (.inl rfl), if_neg (fun q => q ho.res)]; exact h.res
  · rw [heirO_get h.kind (.inr (.inr (.inr rfl)))]
    rcases ho.rot with ⟨rfl, h0⟩ | ⟨t', rfl, ht, he⟩
    · rw [if_neg (fun q => q h0)]; exact h.rot
    · have : (turnO t').kind ≠ 0 := by show (2 : Int) ≠ 0; decide
      rw [he, if_pos this]
      exact .inr ⟨ht, rfl⟩
def unitB : List Int := [0, 0, 100000, 100000]
theorem boxO_box (D : List (Int × O)) : boxD D boxO = some unitB := by
  have := box_ints D 0 0 1 1
  unfold boxO
  rw [this]
  decide
theorem turnD_turnO (D : List (Int × O)) {t : Int} (h : Turn t) : turnD D (turnO t) = (t, true) := by
  have hr : resD D (turnO t) = turnO t := resD_self (by show (2 : Int) ≠ 9; decide)
  have hk : ¬ (turnO t).kind = 0 := by show ¬ (2 : Int) = 0; decide
  unfold turnD
  rw [if_neg hk, hr]
  rcases h with rfl | rfl | rfl | rfl <;> decide
theorem turnD_nil (D : List (Int × O)) {o : O} (h : o.kind = 0) : turnD D o = (0, true) := by
  unfold turnD; rw [if_pos h]
def viewP (p : PgO) : Int × Int × List Int × List Int := (p.num, p.rotate, p.media, p.crop)
def viewN (x : Nat × Int) : Int × Int × List Int × List Int := ((x.1 : Int), x.2, unitB, unitB)
theorem Inh.leaf (D : List (Int × O)) {t : Int} {mine : O} (h : Inh t mine) (n : Int) (o : O) : ∃ p, leafD D n o mine = some p ∧ viewP p = (n, t, unitB, unitB) := by
  have h1 : boxD D (getO mine kMed) = some unitB := by rw [h.med]; exact boxO_box D
  have h2 : turnD D (getO mine kRot) = (t, true) := by
    rcases h.rot with ⟨rfl, h0⟩ | ⟨ht, he⟩
    · exact turnD_nil D h0
    · rw [he]; exact turnD_turnO D ht
  refine ⟨⟨unitB, unitB, t, resD D (getO mine kRes), n, o⟩, ?_, rfl⟩
  unfold leafD
  rw [h1, if_pos h.crop, h2]
  simp only
  rw [if_pos ⟨trivial, .inl h.res⟩]
def seenTo : Nat → List Int
  | 0 => []
  | j + 1 => ((j + 2 : Nat) : Int) :: seenTo j
theorem seenTo_len : ∀ j, (seenTo j).length = j
  | 0 => rfl
  | j + 1 => by rw [seenTo, List.length_cons, seenTo_len j]
theorem seenTo_lt : ∀ (j : Nat) {n : Int}, n ∈ seenTo j → n < (j + 2 : Nat)
  | 0, n, h => by cases h
  | j + 1, n, h => by
    rcases List.mem_cons.1 h with h | h
    · rw [h]; omega
    · have := seenTo_lt j h; omega
theorem path_kids {D : List (Int × O)} {o x : O} (h : getO o kKids = x) (hx : x.kind = 6) : pathD D o [kKids] = x := by
  show resD D (getO o kKids) = x
  rw [h]; exact resD_self (by rw [hx]; decide)
theorem isN_name (b q : List UInt8) : isN (.mk 5 0 b [] []) q = decide (b = q) := by
  show (decide ((5 : Int) = 5) && decide (b = q)) = _
  simp
theorem walk_rep {D : List (Int × O)} {a e : Nat} {t : Int} {ks : List Nat} {P : List (Nat × Int)} (hR : RepK D a e t ks P) : ∀ (k : Nat) (above : O) (pg : List PgO), 2 ≤ a → e ≤ 100 → Inh t above → pg.length + P.length ≤ 1000 → e - a ≤ k →
    ∃ L, kidsD (nodeD D k) above (refsK ks) ⟨seenTo (a - 2), pg⟩ = (⟨seenTo (e - 2), pg ++ L⟩, 0) ∧ L.map viewP = P.map viewN := by
  induction hR with
  | nil a t => exact fun k above pg _ _ _ _ _ => ⟨[], by rw [List.append_nil]; rfl, rfl⟩
  | @page a e t r ks P h k ih =>
    intro K above pg ha he hi hp hk
    have hle := k.le
    obtain ⟨K, rfl⟩ : ∃ q, K = q + 1 := ⟨K - 1, by omega⟩
    obtain ⟨o, hf, hpl, hty⟩ := h
    obtain ⟨p, hp1, hp2⟩ := (hi.heir hpl).leaf D (a : Int) o
    rw [List.length_cons] at hp
    have hseen : (a : Int) ∉ seenTo (a - 2) := fun q => by have := seenTo_lt _ q; omega
    have hnode : nodeD D (K + 1) (a : Int) above ⟨seenTo (a - 2), pg⟩ = (⟨seenTo (a + 1 - 2), pg ++ [p]⟩, 0) := by
      rw [nodeD_succ, if_neg hseen, if_neg (by rw [seenTo_len]; omega), hf]
      have c1 : ¬ ((o, true).2 = false ∨ (o, true).1.kind ≠ 7) := fun q => q.elim (fun q => by cases q) (fun q => q hpl.kind)
      rw [if_neg c1]
      have c2 : isN (getO (o, true).1 kType) kPage = true := by show isN (getO o kType) kPage = true; rw [hty, isN_name]; decide
      rw [if_pos c2]
      show pageD D a o (heirO o above) _ = _
      unfold pageD
      rw [hp1]
      simp only
      rw [if_neg (by omega)]
      rw [show a + 1 - 2 = (a - 2) + 1 by omega, seenTo, show a - 2 + 2 = a by omega]
    obtain ⟨L, hL1, hL2⟩ := ih (K + 1) above (pg ++ [p]) (by omega) he hi (by rw [List.length_append, List.length_singleton]; omega) (by omega)
    refine ⟨p :: L, ?_, ?_⟩
    · show kidsD (nodeD D (K + 1)) above (.mk 9 (a : Int) [] [] [] :: refsK ks) _ = _
      rw [kidsD, if_neg (fun q => q rfl)]
      show (if (nodeD D (K + 1) (a : Int) above ⟨seenTo (a - 2), pg⟩).2 ≠ 0 then nodeD D (K + 1) (a : Int) above ⟨seenTo (a - 2), pg⟩ else kidsD (nodeD D (K + 1)) above (refsK ks) (nodeD D (K + 1) (a : Int) above ⟨seenTo (a - 2), pg⟩).1) = _
      rw [hnode, if_neg (fun q => q rfl)]
      rw [hL1, List.append_assoc]; rfl
    · rw [List.map_cons, List.map_cons, hL2, hp2]; rfl
  | @node a b e t r k1 ks P1 P h h1 k ih1 ih2 =>
    intro K above pg ha he hi hp hk
    have hle := k.le
    have hle1 := h1.le
    obtain ⟨K, rfl⟩ : ∃ q, K = q + 1 := ⟨K - 1, by omega⟩
    obtain ⟨o, hf, hpl, hty, hkd⟩ := h
    rw [List.length_append] at hp
    have hseen : (a : Int) ∉ seenTo (a - 2) := fun q => by have := seenTo_lt _ q; omega
    obtain ⟨L1, hL1, hM1⟩ := ih1 K (heirO o above) pg (by omega) (by omega) (hi.heir hpl) (by omega) (by omega)
    have hnode : nodeD D (K + 1) (a : Int) above ⟨seenTo (a - 2), pg⟩ = (⟨seenTo (b - 2), pg ++ L1⟩, 0) := by
      rw [nodeD_succ, if_neg hseen, if_neg (by rw [seenTo_len]; omega), hf]
      have c1 : ¬ ((o, true).2 = false ∨ (o, true).1.kind ≠ 7) := fun q => q.elim (fun q => by cases q) (fun q => q hpl.kind)
      rw [if_neg c1]
      have c2 : ¬ isN (getO (o, true).1 kType) kPage = true := by show ¬ isN (getO o kType) kPage = true; rw [hty, isN_name]; decide
      rw [if_neg c2]
      have ep : pathD D o [kKids] = .mk 6 0 [] (refsK k1) [] := path_kids hkd rfl
      have c3 : ¬ (isN (getO (o, true).1 kType) kPages = false ∨ (pathD D (o, true).1 [kKids]).kind ≠ 6) := by
        show ¬ (isN (getO o kType) kPages = false ∨ (pathD D o [kKids]).kind ≠ 6)
        rw [hty, isN_name, ep]
        exact fun q => q.elim (fun q => by simp at q) (fun q => q rfl)
      rw [if_neg c3]
      show kidsD (nodeD D K) (heirO o above) (pathD D o [kKids]).items _ = _
      rw [ep]
      rw [show a + 1 - 2 = (a - 2) + 1 by omega, seenTo, show a - 2 + 2 = a by omega] at hL1
      exact hL1
    have hlen : L1.length = P1.length := by have := congrArg List.length hM1; simpa using this
    obtain ⟨L2, hL2, hM2⟩ := ih2 (K + 1) above (pg ++ L1) (by omega) he hi (by rw [List.length_append]; omega) (by omega)
    refine ⟨L1 ++ L2, ?_, by rw [List.map_append, List.map_append, hM1, hM2]⟩
    show kidsD (nodeD D (K + 1)) above (.mk 9 (a : Int) [] [] [] :: refsK ks) _ = _
    rw [kidsD, if_neg (fun q => q rfl)]
    show (if (nodeD D (K + 1) (a : Int) above ⟨seenTo (a - 2), pg⟩).2 ≠ 0 then nodeD D (K + 1) (a : Int) above ⟨seenTo (a - 2), pg⟩ else kidsD (nodeD D (K + 1)) above (refsK ks) (nodeD D (K + 1) (a : Int) above ⟨seenTo (a - 2), pg⟩).1) = _
    rw [hnode, if_neg (fun q => q rfl)]
    rw [hL2, List.append_assoc]
def RootAt (D : List (Int × O)) (ks : List Nat) : Prop := ∃ o, findD D 2 = (o, true) ∧ o.kind = 7 ∧ getO o kMed = boxO ∧ (getO o kCrop).kind = 0 ∧ (getO o kRes).kind = 0 ∧ (getO o kRot).kind = 0 ∧ getO o kType = .mk 5 0 kPages [] [] ∧ getO o kKids = .mk 6 0 [] (refsK ks) []
theorem root_inh {o : O} (h2 : getO o kMed = boxO) (h3 : (getO o kCrop).kind = 0) (h4 : (getO o kRes).kind = 0) (h5 : (getO o kRot).kind = 0) : Inh 0 (heirO o (.mk 7 0 [] [] [])) := by
  have hk : (O.mk 7 0 [] [] []).kind = 7 := rfl
  have hb : boxO.kind ≠ 0 := by show (6 : Int) ≠ 0; decide
  refine ⟨heirO_kind _ _, ?_, ?_, ?_, .inl ⟨rfl, ?_⟩⟩
  · rw [heirO_get hk (.inr (.inl rfl)), h2, if_pos hb]
  · rw [heirO_get hk (.inr (.inr (.inl rfl))), if_neg (fun q => q h3)]; rfl
  · rw [heirO_get hk (.inl rfl), if_neg (fun q => q h4)]; rfl
  · rw [heirO_get hk (.inr (.inr (.inr rfl))), if_neg (fun q => q h5)]; rfl
theorem pages_tree {D : List (Int × O)} {trailer : O} {e : Nat} {ks : List Nat} {P : List (Nat × Int)} (ht : getO trailer kRoot = .mk 9 1 [] [] []) {o1 : O} (h1 : findD D 1 = (o1, true)) (hk1 : o1.kind = 7) (hp1 : getO o1 kPages = .mk 9 2 [] [] []) (hr : RootAt D ks) (hR : RepK D 3 e 0 ks P) (he : e ≤ 100) (hP : P.length ≤ 1000) :
    (pagesD D trailer).2 = 0 ∧ (pagesD D trailer).1.map viewP = P.map viewN := by
  obtain ⟨o, hf, hk, h2, h3, h4, h5, hty, hkd⟩ := hr
  have er : resD D (getO trailer kRoot) = o1 := by
    rw [ht]
    have e1 : resN D 32 (.mk 9 1 [] [] []) = o1 := by
      show resN D 31 (findD D 1).1 = o1
      rw [h1]; exact resN_stop (by rw [hk1]; decide) 31
    unfold resD
    rw [e1, if_neg (by rw [hk1]; decide)]
  obtain ⟨L, hL, hM⟩ := walk_rep hR 4000 (heirO o (.mk 7 0 [] [] [])) [] (by decide) he (root_inh h2 h3 h4 h5) (by simpa using hP) (by omega)
  have hnode : nodeD D 4001 2 (.mk 7 0 [] [] []) ⟨[], []⟩ = (⟨seenTo (e - 2), L⟩, 0) := by
    rw [show 4001 = 4000 + 1 by rfl, nodeD_succ, if_neg (by simp), if_neg (by simp), hf]
    have c1 : ¬ ((o, true).2 = false ∨ (o, true).1.kind ≠ 7) := fun q => q.elim (fun q => by cases q) (fun q => q hk)
    rw [if_neg c1]
    have c2 : ¬ isN (getO (o, true).1 kType) kPage = true := by show ¬ isN (getO o kType) kPage = true; rw [hty, isN_name]; decide
    rw [if_neg c2]
    have ep : pathD D o [kKids] = .mk 6 0 [] (refsK ks) [] := path_kids hkd rfl
    have c3 : ¬ (isN (getO (o, true).1 kType) kPages = false ∨ (pathD D (o, true).1 [kKids]).kind ≠ 6) := by
      show ¬ (isN (getO o kType) kPages = false ∨ (pathD D o [kKids]).kind ≠ 6)
      rw [hty, isN_name, ep]
      exact fun q => q.elim (fun q => by simp at q) (fun q => q rfl)
    rw [if_neg c3]
    show kidsD (nodeD D 4000) (heirO o (.mk 7 0 [] [] [])) (pathD D o [kKids]).items ⟨[2], []⟩ = _
    rw [ep]
    have hL' : kidsD (nodeD D 4000) (heirO o (.mk 7 0 [] [] [])) (refsK ks) ⟨[2], []⟩ = (⟨seenTo (e - 2), [] ++ L⟩, 0) := hL
    rw [List.nil_append] at hL'
    exact hL'
  have e2 : pagesD D trailer = (L, 0) := by
    unfold pagesD
    rw [er, hp1]
    have c : ¬ (o1.kind ≠ 7 ∨ (O.mk 9 2 [] [] []).kind ≠ 9) := fun q => q.elim (fun q => q hk1) (fun q => q rfl)
    rw [if_neg c]
    show (if (nodeD D 4001 2 (.mk 7 0 [] [] []) ⟨[], []⟩).2 ≠ 0 then _ else ((nodeD D 4001 2 (.mk 7 0 [] [] []) ⟨[], []⟩).1.pages, 0)) = _
    rw [hnode, if_neg (fun q => q rfl)]
  rw [e2]
  exact ⟨rfl, hM⟩
end Go.Cl
namespace Go.Cl
structure Lv where
  n : Nat
  t : Int
  ks : List Nat
  P : List (Nat × Int)
inductive Chain (D : List (Int × O)) : Nat → List Nat → List Lv → Prop
  | root {e : Nat} {x ks : List Nat} {P : List (Nat × Int)} (h : RootAt D (ks ++ x)) (k : RepK D 3 e 0 ks P) : Chain D e x [⟨2, 0, ks, P⟩]
  | cons {e n : Nat} {r : Option Int} {x ks : List Nat} {P : List (Nat × Int)} {f : Lv} {rest : List Lv} (h : NodeAt D n r (ks ++ x)) (k : RepK D (n + 1) e (r.getD f.t) ks P) (c : Chain D n [n] (f :: rest)) : Chain D e x (⟨n, r.getD f.t, ks, P⟩ :: f :: rest)
theorem Chain.lo {D : List (Int × O)} {e : Nat} {x : List Nat} {F : List Lv} (h : Chain D e x F) : 3 ≤ e := by
  induction h with
  | root h k => exact k.le
  | cons h k c ih => have := k.le; omega
theorem Chain.mono {D D' : List (Int × O)} {e : Nat} {x : List Nat} {F : List Lv} (h : Chain D e x F) : (∀ m : Nat, 1 ≤ m → m < e → findD D' m = findD D m) → Chain D' e x F := by
  induction h with
  | root h k =>
    intro hm
    have := k.le
    obtain ⟨o, h1, h2⟩ := h
    exact .root ⟨o, (hm 2 (by omega) (by omega)).trans h1, h2⟩ (k.mono fun m q1 q2 => hm m (by omega) q2)
  | @cons e n r x ks P f rest h k c ih =>
    intro hm
    have := k.le
    have := c.lo
    obtain ⟨o, h1, h2⟩ := h
    exact .cons ⟨o, (hm n (by omega) (by omega)).trans h1, h2⟩ (k.mono fun m q1 q2 => hm m (by omega) q2) (ih fun m q1 q2 => hm m q1 (by omega))
theorem Chain.pop {D : List (Int × O)} {e : Nat} {g f : Lv} {rest : List Lv} (h : Chain D e [] (g :: f :: rest)) : Chain D e [] (⟨f.n, f.t, f.ks ++ [g.n], f.P ++ g.P⟩ :: rest) := by
  cases h with
  | @cons _ n r _ ks P _ _ h k c =>
    rw [List.append_nil] at h
    have hn : ∀ t, t = f.t → RepK D n e t [n] P := fun t ht => by
      subst ht
      have := RepK.node h k (RepK.nil e f.t)
      rwa [List.append_nil] at this
    cases c with
    | root h' k' => exact .root (by rw [List.append_nil]; exact h') (k'.snoc (hn _ rfl))
    | cons h' k' c' => exact .cons (by rw [List.append_nil]; exact h') (k'.snoc (hn _ rfl)) c'
theorem Chain.all {D : List (Int × O)} {e : Nat} : ∀ (F : List Lv), Chain D e [] F → ∃ ks, RootAt D ks ∧ RepK D 3 e 0 ks (F.reverse.map (·.P)).flatten
  | [], h => by cases h
  | [f], h => by
    cases h with
    | root h k => exact ⟨_, by rw [List.append_nil] at h; exact h, by simpa using k⟩
  | g :: f :: rest, h => by
    obtain ⟨ks, h1, h2⟩ := Chain.all _ h.pop
    refine ⟨ks, h1, ?_⟩
    have : ((⟨f.n, f.t, f.ks ++ [g.n], f.P ++ g.P⟩ :: rest : List Lv).reverse.map (·.P)).flatten = ((g :: f :: rest).reverse.map (·.P)).flatten := by simp
    rw [← this]; exact h2
termination_by F => F.length
structure Grows (D D' : List (Int × O)) (n e : Nat) : Prop where
  same : ∀ m : Nat, 1 ≤ m → m < e → m ≠ n → findD D' m = findD D m
  node : ∀ r k1, NodeAt D n r k1 → NodeAt D' n r (k1 ++ [e])
  root : n = 2 → ∀ k1, RootAt D k1 → RootAt D' (k1 ++ [e])
theorem Chain.page {D D' : List (Int × O)} {e : Nat} {f : Lv} {rest : List Lv} (h : Chain D e [] (f :: rest)) (g : Grows D D' f.n e) {r : Option Int} (hp : PageAt D' e r) : Chain D' (e + 1) [] (⟨f.n, f.t, f.ks ++ [e], f.P ++ [(e, r.getD f.t)]⟩ :: rest) := by
  have hq : ∀ t, RepK D' e (e + 1) t [e] [(e, r.getD t)] := fun t => .page hp (.nil _ _)
  cases h with
  | root h k =>
    rw [List.append_nil] at h
    have := k.le
    exact .root (by rw [List.append_nil]; exact g.root rfl _ h) ((k.mono fun m q1 q2 => g.same m (by omega) q2 (by show m ≠ 2; omega)).snoc (hq 0))
  | @cons _ n r2 _ ks P f2 rest h k c =>
    rw [List.append_nil] at h
    have := k.le
    exact .cons (by rw [List.append_nil]; exact g.node _ _ h) ((k.mono fun m q1 q2 => g.same m (by omega) q2 (by show m ≠ n; omega)).snoc (hq _)) (c.mono fun m q1 q2 => g.same m q1 (by omega) (by show m ≠ n; omega))
theorem Chain.node {D D' : List (Int × O)} {e : Nat} {f : Lv} {rest : List Lv} (h : Chain D e [] (f :: rest)) (g : Grows D D' f.n e) {r : Option Int} (hp : NodeAt D' e r []) : Chain D' (e + 1) [] (⟨e, r.getD f.t, [], []⟩ :: f :: rest) := by
  refine .cons (by rw [List.append_nil]; exact hp) (.nil _ _) ?_
  cases h with
  | root h k =>
    rw [List.append_nil] at h
    have := k.le
    exact .root (g.root rfl _ h) (k.mono fun m q1 q2 => g.same m (by omega) q2 (by show m ≠ 2; omega))
  | @cons _ n r2 _ ks P f2 rest h k c =>
    rw [List.append_nil] at h
    have := k.le
    exact .cons (g.node _ _ h) (k.mono fun m q1 q2 => g.same m (by omega) q2 (by show m ≠ n; omega)) (c.mono fun m q1 q2 => g.same m q1 (by omega) (by show m ≠ n; omega))
def withL : O → List O → O
  | .mk k n b _ d, l => .mk k n b l d
def kidO (n : Nat) : O := .mk 9 (n : Int) [] [] []
def ownT (c : Nat) : Option Int := if c / 64 % 2 = 1 then some (90 * ((c / 8 % 4 : Nat) : Int)) else none
def nodeO : O := .mk 7 0 [] [] [(kKids, .mk 6 0 [] [] []), (kType, .mk 5 0 kPages [] [])]
def pageO : O := .mk 7 0 [] [] [(kType, .mk 5 0 kPage [] [])]
def rootO : O := .mk 7 0 [] [] [(kKids, .mk 6 0 [] [] []), (kMed, boxO), (kType, .mk 5 0 kPages [] [])]
def firstO : O := .mk 7 0 [] [] [(kPages, .mk 9 2 [] [] [])]
def bareN (c : Nat) : O := if c % 8 < 2 then nodeO else pageO
def newO (c : Nat) : O := match ownT c with
  | none => bareN c
  | some t => setO (bareN c) [(kRot, turnO t)]
def kidsOf (o : O) (n : Nat) : O := withL (getO o kKids) ((getO o kKids).items ++ [kidO n])
def upKids (o : O) (n : Nat) : O := setO o [(kKids, kidsOf o n)]
theorem ownT_turn {c : Nat} {t : Int} (h : ownT c = some t) : Turn t := by
  unfold ownT at h
  split at h
  · injection h with h
    have h4 : c / 8 % 4 < 4 := Nat.mod_lt _ (by decide)
    generalize c / 8 % 4 = q at h h4
    have : q = 0 ∨ q = 1 ∨ q = 2 ∨ q = 3 := by omega
    rw [← h]
    rcases this with rfl | rfl | rfl | rfl
    · exact .inl rfl
    · exact .inr (.inl rfl)
    · exact .inr (.inr (.inl rfl))
    · exact .inr (.inr (.inr rfl))
  · cases h
theorem bareN_kind (c : Nat) : (bareN c).kind = 7 := by unfold bareN; split <;> rfl
theorem bareN_get (c : Nat) {k : List UInt8} (hk : k = kRes ∨ k = kMed ∨ k = kCrop ∨ k = kRot) : (getO (bareN c) k).kind = 0 := by
  unfold bareN
  split
  · rcases hk with rfl | rfl | rfl | rfl <;> decide +kernel
  · rcases hk with rfl | rfl | rfl | rfl <;> decide +kernel
theorem turnO_kind (t : Int) : (turnO t).kind ≠ 0 := by show (2 : Int) ≠ 0; decide
theorem newO_get (c : Nat) (k : List UInt8) (hk : k ≠ kRot) : getO (newO c) k = getO (bareN c) k := by
  unfold newO
  split
  · rfl
  · rw [getO_set (bareN_kind c) kRot _ (turnO_kind _), if_neg hk]
theorem newO_kind (c : Nat) : (newO c).kind = 7 := by
  unfold newO
  split
  · exact bareN_kind c
  · rw [setO_kind]; exact bareN_kind c
theorem newO_plain (c : Nat) : Plain (newO c) (ownT c) := by
  refine ⟨newO_kind c, ?_, ?_, ?_, ?_⟩
  · rw [newO_get c _ (by decide)]; exact bareN_get c (.inr (.inl rfl))
  · rw [newO_get c _ (by decide)]; exact bareN_get c (.inr (.inr (.inl rfl)))
  · rw [newO_get c _ (by decide)]; exact bareN_get c (.inl rfl)
  · cases h : ownT c with
    | none =>
      refine .inl ⟨rfl, ?_⟩
      unfold newO; rw [h]
      exact bareN_get c (.inr (.inr (.inr rfl)))
    | some t =>
      refine .inr ⟨t, rfl, ownT_turn h, ?_⟩
      unfold newO; rw [h]
      show getO (setO (bareN c) [(kRot, turnO t)]) kRot = _
      rw [getO_set (bareN_kind c) kRot _ (turnO_kind _), if_pos rfl]
theorem upKids_kind (o : O) (n : Nat) : (upKids o n).kind = o.kind := setO_kind _ _
theorem upKids_get {o : O} (h : o.kind = 7) {l : List O} (hk : getO o kKids = .mk 6 0 [] l []) (n : Nat) (k : List UInt8) : getO (upKids o n) k = if k = kKids then .mk 6 0 [] (l ++ [kidO n]) [] else getO o k := by
  unfold upKids kidsOf
  rw [hk]
  exact getO_set h kKids _ (by show (6 : Int) ≠ 0; decide) k
theorem refsK_snoc (ks : List Nat) (n : Nat) : refsK (ks ++ [n]) = refsK ks ++ [kidO n] := by simp [refsK, kidO]
theorem upKids_plain {o : O} {r : Option Int} (h : Plain o r) {l : List O} (hk : getO o kKids = .mk 6 0 [] l []) (n : Nat) : Plain (upKids o n) r := by
  have g := upKids_get h.kind hk n
  refine ⟨(upKids_kind o n).trans h.kind, ?_, ?_, ?_, ?_⟩
  · rw [g, if_neg (by decide)]; exact h.med
  · rw [g, if_neg (by decide)]; exact h.crop
  · rw [g, if_neg (by decide)]; exact h.res
  · rw [g, if_neg (by decide)]; exact h.rot
def Numbered (D : List (Int × O)) : Prop := ∀ i (h : i < D.length), D[i].1 = ((i + 1 : Nat) : Int)
theorem find_numbered {D : List (Int × O)} (h : Numbered D) {m : Nat} (h1 : 1 ≤ m) (h2 : m ≤ D.length) : findD D m = ((D[m - 1]'(by omega)).2, true) := by
  have hf : D.find? (fun e => e.1 == (m : Int)) = some (D[m - 1]'(by omega)) := by
    rw [List.find?_eq_some_iff_getElem]
    refine ⟨by rw [h]; simp; omega, m - 1, by omega, rfl, fun j hj => ?_⟩
    rw [h]
    simp; omega
  unfold findD
  rw [hf]
structure GS where
  items : List (Int × O)
  way : List Nat
  turns : List Int
  want : List (Nat × Int)
def startS : GS := ⟨[(1, firstO), (2, rootO)], [1], [0], []⟩
def atS (s : GS) : Nat := s.way.getD (s.way.length - 1) 0
def turnS (s : GS) (c : Nat) : Int := (ownT c).getD (s.turns.getD (s.way.length - 1) 0)
def itemsS (s : GS) (c : Nat) : List (Int × O) := s.items.set (atS s) ((s.items.getD (atS s) (0, O.none)).1, upKids (s.items.getD (atS s) (0, O.none)).2 (s.items.length + 1)) ++ [(((s.items.length + 1 : Nat) : Int), newO c)]
def growS (s : GS) (c : Nat) : GS :=
  if c % 8 = 2 then (if 1 < s.way.length then ⟨s.items, s.way.take (s.way.length - 1), s.turns.take (s.way.length - 1), s.want⟩ else s)
  else if c % 8 < 2 then ⟨itemsS s c, s.way ++ [s.items.length], s.turns ++ [turnS s c], s.want⟩
  else ⟨itemsS s c, s.way, s.turns, s.want ++ [(s.items.length + 1, turnS s c)]⟩
structure InvS (s : GS) : Prop where
  num : Numbered s.items
  len : 2 ≤ s.items.length
  first : (s.items.getD 0 (0, O.none)).2 = firstO
  chain : ∃ F, Chain s.items (s.items.length + 1) [] F ∧ s.way = (F.reverse.map fun f => f.n - 1) ∧ s.turns = F.reverse.map (·.t) ∧ s.want = (F.reverse.map (·.P)).flatten
theorem inv_start : InvS startS where
  num := fun i h => by
    have : i = 0 ∨ i = 1 := by have : i < 2 := h; omega
    rcases this with rfl | rfl <;> rfl
  len := by decide
  first := rfl
  chain := by
    refine ⟨[⟨2, 0, [], []⟩], .root ⟨rootO, rfl, rfl, by kernel_rfl, by decide +kernel, by decide +kernel, by decide +kernel, by kernel_rfl, by kernel_rfl⟩ (.nil 3 0), rfl, rfl, rfl⟩
theorem itemsS_len (s : GS) (c : Nat) : (itemsS s c).length = s.items.length + 1 := by unfold itemsS; simp
theorem Chain.top {D : List (Int × O)} {e : Nat} {x : List Nat} {f : Lv} {rest : List Lv} (h : Chain D e x (f :: rest)) : 2 ≤ f.n ∧ f.n < e := by
  cases h with
  | root h k => have := k.le; exact ⟨Nat.le_refl _, by show 2 < e; omega⟩
  | @cons _ n r _ ks P f2 rest h k c => have := k.le; have := c.lo; exact ⟨by show 2 ≤ n; omega, by show n < e; omega⟩
theorem take_pred {α : Type} (l : List α) (x : α) : (l ++ [x]).take ((l ++ [x]).length - 1) = l := by simp
theorem getD_last {α : Type} (l : List α) (x d : α) : (l ++ [x]).getD ((l ++ [x]).length - 1) d = x := by simp
theorem grow_items {s : GS} (hi : InvS s) (c : Nat) {f : Lv} {rest : List Lv} (hc : Chain s.items (s.items.length + 1) [] (f :: rest)) (ha : atS s = f.n - 1) : Numbered (itemsS s c) ∧ Grows s.items (itemsS s c) f.n (s.items.length + 1) ∧ findD (itemsS s c) ((s.items.length + 1 : Nat) : Int) = (newO c, true) ∧ ((itemsS s c).getD 0 (0, O.none)).2 = firstO := by
  obtain ⟨h2, hlt⟩ := hc.top
  have hat : atS s < s.items.length := by rw [ha]; omega
  have hl := itemsS_len s c
  have hget : ∀ j (h : j < (itemsS s c).length), (itemsS s c)[j] = if hj : j < s.items.length then (if j = atS s then (s.items[j].1, upKids s.items[j].2 (s.items.length + 1)) else s.items[j]) else (((s.items.length + 1 : Nat) : Int), newO c) := by
    intro j h
    have h' : j < (s.items.set (atS s) ((s.items.getD (atS s) (0, O.none)).1, upKids (s.items.getD (atS s) (0, O.none)).2 (s.items.length + 1)) ++ [(((s.items.length + 1 : Nat) : Int), newO c)]).length := h
    have hu : (itemsS s c)[j]'h = (s.items.set (atS s) ((s.items.getD (atS s) (0, O.none)).1, upKids (s.items.getD (atS s) (0, O.none)).2 (s.items.length + 1)) ++ [(((s.items.length + 1 : Nat) : Int), newO c)])[j]'(h') := rfl
    rw [hu]
    by_cases hj : j < s.items.length
    · rw [dif_pos hj, List.getElem_append_left (by simpa using hj), List.getElem_set]
      by_cases he : atS s = j
      · subst he
        rw [if_pos rfl, if_pos rfl]
        simp [List.getD, List.getElem?_eq_getElem hat]
      · rw [if_neg he, if_neg (fun q => he q.symm)]
    · rw [dif_neg hj, List.getElem_append_right (by simpa using hj)]
      simp
  have hnum : Numbered (itemsS s c) := by
    intro j h
    rw [hget j h]
    by_cases hj : j < s.items.length
    · rw [dif_pos hj]
      split
      · exact hi.num j hj
      · exact hi.num j hj
    · rw [dif_neg hj]
      have : j = s.items.length := by omega
      rw [this]
  have hnew : findD (itemsS s c) ((s.items.length + 1 : Nat) : Int) = (newO c, true) := by
    rw [find_numbered hnum (by omega) (by omega)]
    rw [hget]
    simp
  have hsame : ∀ m : Nat, 1 ≤ m → m < s.items.length + 1 → m ≠ f.n → findD (itemsS s c) m = findD s.items m := by
    intro m q1 q2 q3
    rw [find_numbered hnum q1 (by omega), find_numbered hi.num q1 (by omega), hget, dif_pos (by omega), if_neg (by omega)]
  have hup : ∀ o, findD s.items (f.n : Int) = (o, true) → findD (itemsS s c) (f.n : Int) = (upKids o (s.items.length + 1), true) := by
    intro o ho
    rw [find_numbered hi.num (by omega) (by omega)] at ho
    rw [find_numbered hnum (by omega) (by omega), hget, dif_pos (by omega), if_pos (by omega)]
    injection ho with ho _
    rw [ho]
  refine ⟨hnum, ⟨hsame, ?_, ?_⟩, hnew, ?_⟩
  · rintro r k1 ⟨o, h1, h3, h4, h5⟩
    refine ⟨_, hup o h1, upKids_plain h3 h5 _, ?_, ?_⟩
    · rw [upKids_get h3.kind h5, if_neg (by decide)]; exact h4
    · rw [upKids_get h3.kind h5, if_pos rfl, refsK_snoc]
  · rintro hn k1 ⟨o, h1, h3, h4, h5, h6, h7, h8, h9⟩
    rw [hn] at hup
    have g := upKids_get h3 h9 (s.items.length + 1)
    refine ⟨_, hup o h1, (upKids_kind _ _).trans h3, ?_, ?_, ?_, ?_, ?_, ?_⟩
    · rw [g, if_neg (by decide)]; exact h4
    · rw [g, if_neg (by decide)]; exact h5
    · rw [g, if_neg (by decide)]; exact h6
    · rw [g, if_neg (by decide)]; exact h7
    · rw [g, if_neg (by decide)]; exact h8
    · rw [g, if_pos rfl, refsK_snoc]
  · have h0 : 0 < (itemsS s c).length := by omega
    have h00 := hi.first
    have hp : 0 < s.items.length := by have := hi.len; omega
    rw [List.getD_eq_getElem?_getD, List.getElem?_eq_getElem hp] at h00
    rw [List.getD_eq_getElem?_getD, List.getElem?_eq_getElem h0, Option.getD_some, hget, dif_pos hp, if_neg (by omega)]
    exact h00
theorem inv_grow {s : GS} (hi : InvS s) (c : Nat) : InvS (growS s c) := by
  obtain ⟨F, hc, hw, ht, hP⟩ := hi.chain
  cases F with
  | nil => cases hc
  | cons f rest =>
  have hwe : s.way = (rest.reverse.map fun f => f.n - 1) ++ [f.n - 1] := by rw [hw]; simp
  have hte : s.turns = (rest.reverse.map (·.t)) ++ [f.t] := by rw [ht]; simp
  have hwl : s.way.length = rest.length + 1 := by rw [hwe]; simp
  have hat : atS s = f.n - 1 := by unfold atS; rw [hwe]; exact getD_last _ _ _
  have htn : ∀ c, turnS s c = (ownT c).getD f.t := by
    intro c
    unfold turnS
    congr 1
    rw [hwl, hte]
    have : rest.length + 1 - 1 = ((rest.reverse.map (·.t)) ++ [f.t]).length - 1 := by simp
    rw [this]; exact getD_last _ _ _
  unfold growS
  by_cases h2 : c % 8 = 2
  · rw [if_pos h2]
    by_cases h1 : 1 < s.way.length
    · rw [if_pos h1]
      cases rest with
      | nil => rw [hwl] at h1; simp at h1
      | cons g rest =>
        refine ⟨hi.num, hi.len, hi.first, ⟨_, hc.pop, ?_, ?_, ?_⟩⟩
        · show s.way.take (s.way.length - 1) = _
          rw [hwe, take_pred]; simp
        · show s.turns.take (s.way.length - 1) = _
          rw [hwl, hte]
          have : (g :: rest).length + 1 - 1 = (((g :: rest).reverse.map (·.t)) ++ [f.t]).length - 1 := by simp
          rw [this, take_pred]; simp
        · show s.want = _
          rw [hP]; simp
    · rw [if_neg h1]; exact hi
  rw [if_neg h2]
  obtain ⟨g1, g2, g3, g4⟩ := grow_items hi c hc hat
  by_cases h1 : c % 8 < 2
  · rw [if_pos h1]
    have hN : NodeAt (itemsS s c) (s.items.length + 1) (ownT c) [] := by
      refine ⟨newO c, g3, newO_plain c, ?_, ?_⟩
      · rw [newO_get c _ (by decide)]; unfold bareN; rw [if_pos h1]; kernel_rfl
      · rw [newO_get c _ (by decide)]; unfold bareN; rw [if_pos h1]; kernel_rfl
    refine ⟨g1, by show 2 ≤ (itemsS s c).length; rw [itemsS_len]; have := hi.len; omega, g4, ⟨_, by show Chain (itemsS s c) ((itemsS s c).length + 1) [] _; rw [itemsS_len]; exact hc.node g2 hN, ?_, ?_, ?_⟩⟩
    · show s.way ++ [s.items.length] = _
      rw [hw]; simp
    · show s.turns ++ [turnS s c] = _
      rw [ht, htn]; simp
    · show s.want = _
      rw [hP]; simp
  · rw [if_neg h1]
    have hN : PageAt (itemsS s c) (s.items.length + 1) (ownT c) := by
      refine ⟨newO c, g3, newO_plain c, ?_⟩
      rw [newO_get c _ (by decide)]; unfold bareN; rw [if_neg h1]; kernel_rfl
    refine ⟨g1, by show 2 ≤ (itemsS s c).length; rw [itemsS_len]; have := hi.len; omega, g4, ⟨_, by show Chain (itemsS s c) ((itemsS s c).length + 1) [] _; rw [itemsS_len]; exact hc.page g2 hN, ?_, ?_, ?_⟩⟩
    · show s.way = _
      rw [hw]; simp
    · show s.turns = _
      rw [ht]; simp
    · show s.want ++ [(s.items.length + 1, turnS s c)] = _
      rw [hP, htn]; simp
theorem inv_all (l : List Nat) : InvS (l.foldl growS startS) := by
  have : ∀ (l : List Nat) (s : GS), InvS s → InvS (l.foldl growS s) := by
    intro l
    induction l with
    | nil => exact fun s h => h
    | cons c l ih => exact fun s h => ih _ (inv_grow h c)
  exact this l _ inv_start
theorem grow_len (s : GS) (c : Nat) : (growS s c).items.length ≤ s.items.length + 1 ∧ (growS s c).want.length ≤ s.want.length + 1 ∧ (growS s c).way.length ≤ s.way.length + 1 := by
  unfold growS
  split
  · split
    · exact ⟨by show s.items.length ≤ _; omega, by show s.want.length ≤ _; omega, by show (s.way.take _).length ≤ _; rw [List.length_take]; omega⟩
    · exact ⟨by omega, by omega, by omega⟩
  · split
    · exact ⟨by show (itemsS s c).length ≤ _; rw [itemsS_len]; exact Nat.le_refl _, by show s.want.length ≤ _; omega, by simp⟩
    · exact ⟨by show (itemsS s c).length ≤ _; rw [itemsS_len]; exact Nat.le_refl _, by simp, by show s.way.length ≤ _; omega⟩
def trailerT : O := .mk 7 0 [] [] [(kRoot, .mk 9 1 [] [] [])]
theorem grown_pages {s : GS} (hi : InvS s) (he : s.items.length ≤ 90) (hw : s.want.length ≤ 900) : (pagesD s.items trailerT).2 = 0 ∧ (pagesD s.items trailerT).1.map viewP = s.want.map viewN := by
  obtain ⟨F, hc, _, _, hP⟩ := hi.chain
  obtain ⟨ks, h1, h2⟩ := hc.all
  rw [← hP] at h2
  have hp : 0 < s.items.length := by have := hi.len; omega
  have hf := find_numbered hi.num (m := 1) (Nat.le_refl _) (by omega)
  have h00 := hi.first
  rw [List.getD_eq_getElem?_getD, List.getElem?_eq_getElem hp, Option.getD_some] at h00
  have hf : findD s.items 1 = (firstO, true) := by
    have e : ((1 : Nat) : Int) = 1 := rfl
    rw [e] at hf
    rw [hf]
    show (s.items[0].2, true) = _
    rw [h00]
  exact pages_tree (by kernel_rfl) hf rfl (by kernel_rfl) h1 h2 (by omega) (by omega)
end Go.Cl
set_option linter.unusedSimpArgs false
set_option linter.unusedVariables false
set_option maxRecDepth 100000
namespace Go.Cl
structure FlatV (L : Nat) (v : O) : Prop where
  b : v.bytes.length ≤ 100
  l : v.items.length ≤ L
  d : v.ents = []
  bare : ∀ x ∈ v.items, ∃ k n, x = .mk k n [] [] []
structure FlatO (L : Nat) (o : O) : Prop where
  b : o.bytes = []
  l : o.items = []
  d : o.ents.length ≤ L
  keys : ∀ e ∈ o.ents, e.1.length ≤ 100
  vals : ∀ e ∈ o.ents, FlatV L e.2
theorem FlatV.mono {L M : Nat} {v : O} (h : FlatV L v) (k : L ≤ M) : FlatV M v := ⟨h.b, Nat.le_trans h.l k, h.d, h.bare⟩
theorem FlatO.mono {L M : Nat} {o : O} (h : FlatO L o) (k : L ≤ M) : FlatO M o := ⟨h.b, h.l, Nat.le_trans h.d k, h.keys, fun e he => (h.vals e he).mono k⟩
theorem FlatV.none (L : Nat) : FlatV L O.none := ⟨Nat.zero_le _, Nat.zero_le _, rfl, fun x h => by cases h⟩
theorem FlatV.small {L : Nat} {v : O} (h : FlatV L v) (hL : L ≤ 100000) : Small v := by
  cases v with
  | mk k n b l d =>
    obtain ⟨h1, h2, h3, h4⟩ := h
    have h1 : b.length ≤ 100 := h1
    have h2 : l.length ≤ L := h2
    have h3 : d = [] := h3
    have h4 : ∀ x ∈ l, ∃ k n, x = .mk k n [] [] [] := h4
    subst h3
    exact .mk (by omega) (by omega) (by simp) (fun e h => by cases h) (fun x hx => by obtain ⟨k, n, rfl⟩ := h4 x hx; exact Small.bare _ _) (fun e h => by cases h)
theorem FlatO.small {L : Nat} {o : O} (h : FlatO L o) (hL : L ≤ 100000) : Small o := by
  cases o with
  | mk k n b l d =>
    obtain ⟨h1, h2, h3, h4, h5⟩ := h
    have h1 : b = [] := h1
    have h2 : l = [] := h2
    have h3 : d.length ≤ L := h3
    subst h1 h2
    exact .mk (by simp) (by simp) (by omega) (fun e he => Nat.le_trans (h4 e he) (by omega)) (fun e h => by cases h) (fun e he => (h5 e he).small hL)
theorem nodes_bare (k n : Int) (b : List UInt8) : nodesO (.mk k n b [] []) = 1 := by rw [nodesO_mk]; rfl
theorem sum_ones : ∀ {l : List O}, (∀ x ∈ l, ∃ k n, x = .mk k n [] [] []) → (l.map nodesO).sum = l.length
  | [], _ => rfl
  | x :: l, h => by
    rw [List.map_cons, List.sum_cons, sum_ones fun y hy => h y (List.mem_cons_of_mem _ hy)]
    obtain ⟨k, n, rfl⟩ := h x (List.mem_cons_self ..)
    rw [nodes_bare, List.length_cons]; omega
theorem FlatV.nodes {L : Nat} {v : O} (h : FlatV L v) : nodesO v ≤ 1 + L := by
  cases v with
  | mk k n b l d =>
    obtain ⟨h1, h2, h3, h4⟩ := h
    have h3 : d = [] := h3
    have g2 : l.length ≤ L := h2
    have g4 : ∀ x ∈ l, ∃ k n, x = .mk k n [] [] [] := h4
    subst h3
    rw [nodesO_mk, sum_ones g4]
    simp; exact g2
theorem sum_filter_le {α : Type} (f : α → Nat) (p : α → Bool) : ∀ l : List α, ((l.filter p).map f).sum ≤ (l.map f).sum
  | [] => Nat.le_refl _
  | x :: l => by
    have := sum_filter_le f p l
    rw [List.filter_cons]
    split
    · rw [List.map_cons, List.map_cons, List.sum_cons, List.sum_cons]; omega
    · rw [List.map_cons, List.sum_cons]; omega
theorem put_sum (f : List UInt8 × O → Nat) (D : List (List UInt8 × O)) (e : List UInt8 × O) : ((putE D e).map f).sum ≤ (D.map f).sum + f e := by
  unfold putE others
  have h1 := sum_filter_le f (fun y => !(y.1 == e.1)) (D.take (atE D e.1))
  have h2 := sum_filter_le f (fun y => !(y.1 == e.1)) (D.drop (atE D e.1))
  have h3 : (D.map f).sum = ((D.take (atE D e.1)).map f).sum + ((D.drop (atE D e.1)).map f).sum := by
    rw [← List.sum_append, ← List.map_append, List.take_append_drop]
  rw [List.map_append, List.map_append, List.sum_append, List.sum_append]
  have h4 : (((if e.2.kind = 0 then [] else [e]) : List (List UInt8 × O)).map f).sum ≤ f e := by
    split
    · simp
    · simp
  omega
theorem put_len (D : List (List UInt8 × O)) (e : List UInt8 × O) : (putE D e).length ≤ D.length + 1 := by
  have h := put_sum (fun _ => 1) D e
  have hc : ∀ l : List (List UInt8 × O), (l.map fun _ => 1).sum = l.length := fun l => by
    induction l with
    | nil => rfl
    | cons x l ih => rw [List.map_cons, List.sum_cons, ih, List.length_cons]; omega
  rw [hc, hc] at h
  exact h
theorem set_flat {L : Nat} {o v : O} {k : List UInt8} (h : FlatO L o) (hv : FlatV (L + 1) v) (hk : k.length ≤ 100) : FlatO (L + 1) (setO o [(k, v)]) := by
  unfold setO
  split
  · cases o with
    | mk kk n b l d =>
      have hp : ∀ e ∈ putE d (k, v), e.1.length ≤ 100 ∧ FlatV (L + 1) e.2 := fun e he => by
        rcases putE_mem he with he | rfl
        · exact ⟨h.keys e he, (h.vals e he).mono (Nat.le_succ _)⟩
        · exact ⟨hk, hv⟩
      exact ⟨h.b, h.l, Nat.le_trans (put_len d (k, v)) (Nat.succ_le_succ h.d), fun e he => (hp e he).1, fun e he => (hp e he).2⟩
  · exact h.mono (Nat.le_succ _)
theorem set_nodes (o : O) (k : List UInt8) (v : O) : nodesO (setO o [(k, v)]) ≤ nodesO o + nodesO v := by
  unfold setO
  split
  · cases o with
    | mk kk n b l d =>
      have := put_sum (fun e => nodesO e.2) d (k, v)
      show nodesO (.mk kk n b l (putE d (k, v))) ≤ _
      rw [nodesO_mk, nodesO_mk]
      have this : ((putE d (k, v)).map fun e => nodesO e.2).sum ≤ (d.map fun e => nodesO e.2).sum + nodesO v := this
      omega
  · omega
theorem getO_flat {L : Nat} {o : O} (h : FlatO L o) (k : List UInt8) : FlatV L (getO o k) := by
  unfold getO findE
  split
  · split
    · rename_i e he
      exact h.vals e (List.mem_of_find?_eq_some he)
    · exact FlatV.none L
  · exact FlatV.none L
theorem kids_flat {L : Nat} {o : O} (h : FlatO L o) (n : Nat) : FlatV (L + 1) (kidsOf o n) := by
  have g := getO_flat h kKids
  unfold kidsOf
  cases hq : getO o kKids with
  | mk kk m b l d =>
    rw [hq] at g
    refine ⟨g.b, ?_, g.d, ?_⟩
    · show (l ++ [kidO n]).length ≤ _
      have : l.length ≤ L := g.l
      simp; omega
    · intro x hx
      have hx : x ∈ l ++ [kidO n] := hx
      rcases List.mem_append.1 hx with hx | hx
      · exact g.bare x hx
      · obtain rfl : x = kidO n := by simpa using hx
        exact ⟨9, n, rfl⟩
theorem bare_flat (k n : Int) (b : List UInt8) (hb : b.length ≤ 100) (L : Nat) : FlatV L (.mk k n b [] []) := ⟨hb, Nat.zero_le _, rfl, fun x h => by cases h⟩
theorem bareN_flat (c : Nat) : FlatO 3 (bareN c) := by
  unfold bareN
  split
  · refine ⟨rfl, rfl, by decide, ?_, ?_⟩
    · intro e he
      simp only [nodeO, O.ents, List.mem_cons, List.not_mem_nil, or_false] at he
      rcases he with rfl | rfl <;> decide
    · intro e he
      simp only [nodeO, O.ents, List.mem_cons, List.not_mem_nil, or_false] at he
      rcases he with rfl | rfl
      · exact bare_flat _ _ _ (by decide) _
      · exact bare_flat _ _ _ (by decide) _
  · refine ⟨rfl, rfl, by decide, ?_, ?_⟩
    · intro e he
      simp only [pageO, O.ents, List.mem_cons, List.not_mem_nil, or_false] at he
      subst he; decide
    · intro e he
      simp only [pageO, O.ents, List.mem_cons, List.not_mem_nil, or_false] at he
      subst he
      exact bare_flat _ _ _ (by decide) _
theorem bareN_nodes (c : Nat) : nodesO (bareN c) ≤ 3 := by
  unfold bareN
  split
  · simp only [nodeO]; rw [nodesO_mk]; simp [nodes_bare]
  · simp only [pageO]; rw [nodesO_mk]; simp [nodes_bare]
theorem newO_flat (c : Nat) : FlatO 4 (newO c) := by
  unfold newO
  split
  · exact (bareN_flat c).mono (by omega)
  · exact set_flat (bareN_flat c) (bare_flat _ _ _ (by decide) _) (by decide)
theorem newO_nodes (c : Nat) : nodesO (newO c) ≤ 4 := by
  have h := bareN_nodes c
  unfold newO
  split
  · omega
  · have h1 := set_nodes (bareN c) kRot (turnO ‹Int›)
    have h2 : nodesO (turnO ‹Int›) = 1 := nodes_bare _ _ _
    omega
structure SizeS (s : GS) : Prop where
  flat : ∀ e ∈ s.items, FlatO (s.items.length + 4) e.2
  nodes : (s.items.map fun e => nodesO e.2).sum ≤ s.items.length * 100
theorem sum_set_le : ∀ (l : List Nat) (i a : Nat), (l.set i a).sum + l.getD i 0 ≤ l.sum + a
  | [], i, a => by simp
  | x :: l, 0, a => by simp; omega
  | x :: l, i + 1, a => by
    have := sum_set_le l i a
    simp only [List.set_cons_succ, List.sum_cons, List.getD_cons_succ] at *
    omega
theorem size_start : SizeS startS := by
  have hb : FlatV 6 boxO := by
    refine ⟨by decide, by decide, rfl, ?_⟩
    intro x hx
    have hx : x ∈ rO [(2, 0), (2, 0), (2, 1), (2, 1)] := hx
    simp only [rO, List.mem_map] at hx
    obtain ⟨e, -, rfl⟩ := hx
    exact ⟨_, _, rfl⟩
  refine ⟨?_, ?_⟩
  · intro e he
    simp only [startS, List.mem_cons, List.not_mem_nil, or_false] at he
    rcases he with rfl | rfl
    · refine ⟨rfl, rfl, by decide, ?_, ?_⟩
      · intro e he
        simp only [firstO, O.ents, List.mem_cons, List.not_mem_nil, or_false] at he
        subst he; decide
      · intro e he
        simp only [firstO, O.ents, List.mem_cons, List.not_mem_nil, or_false] at he
        subst he
        exact bare_flat _ _ _ (by decide) _
    · refine ⟨rfl, rfl, by decide, ?_, ?_⟩
      · intro e he
        simp only [rootO, O.ents, List.mem_cons, List.not_mem_nil, or_false] at he
        rcases he with rfl | rfl | rfl <;> decide
      · intro e he
        simp only [rootO, O.ents, List.mem_cons, List.not_mem_nil, or_false] at he
        rcases he with rfl | rfl | rfl
        · exact bare_flat _ _ _ (by decide) _
        · exact hb
        · exact bare_flat _ _ _ (by decide) _
  · have h1 : nodesO firstO = 2 := by simp only [firstO]; rw [nodesO_mk]; simp [nodes_bare]
    have h2 := hb.nodes
    have h3 : nodesO rootO = 3 + nodesO boxO := by simp only [rootO]; rw [nodesO_mk]; simp [nodes_bare]; omega
    show ([(1, firstO), (2, rootO)].map fun e : Int × O => nodesO e.2).sum ≤ 200
    simp only [List.map_cons, List.map_nil, List.sum_cons, List.sum_nil]
    omega
theorem items_size {s : GS} (h : SizeS s) (hl : s.items.length ≤ 80) (c : Nat) : (∀ e ∈ itemsS s c, FlatO (s.items.length + 1 + 4) e.2) ∧ ((itemsS s c).map fun e => nodesO e.2).sum ≤ (s.items.length + 1) * 100 := by
  have hn := newO_nodes c
  have hx : FlatO (s.items.length + 4) (s.items.getD (atS s) (0, O.none)).2 := by
    by_cases hi : atS s < s.items.length
    · rw [List.getD_eq_getElem?_getD, List.getElem?_eq_getElem hi]
      exact h.flat _ (List.getElem_mem hi)
    · rw [List.getD_eq_getElem?_getD, List.getElem?_eq_none (by omega)]
      exact ⟨rfl, rfl, Nat.zero_le _, fun e h => (by cases h), fun e h => (by cases h)⟩
  have hk := kids_flat hx (s.items.length + 1)
  unfold itemsS
  refine ⟨?_, ?_⟩
  · intro e he
    rcases List.mem_append.1 he with he | he
    · rcases List.mem_or_eq_of_mem_set he with he | rfl
      · exact (h.flat e he).mono (by omega)
      · exact set_flat hx hk (by decide)
    · obtain rfl : e = _ := List.mem_singleton.1 he
      exact (newO_flat c).mono (by omega)
  · rw [List.map_append, List.sum_append, List.map_set]
    show ((s.items.map fun e => nodesO e.2).set (atS s) (nodesO (upKids (s.items.getD (atS s) (0, O.none)).2 (s.items.length + 1)))).sum + _ ≤ _
    have h1 := sum_set_le (s.items.map fun e => nodesO e.2) (atS s) (nodesO (upKids (s.items.getD (atS s) (0, O.none)).2 (s.items.length + 1)))
    have h2 := set_nodes (s.items.getD (atS s) (0, O.none)).2 kKids (kidsOf (s.items.getD (atS s) (0, O.none)).2 (s.items.length + 1))
    have h3 := hk.nodes
    have h4 := h.nodes
    have h6 : ([(((s.items.length + 1 : Nat) : Int), newO c)].map fun e => nodesO e.2).sum = nodesO (newO c) := by simp
    rw [h6]
    have h2 : nodesO (upKids (s.items.getD (atS s) (0, O.none)).2 (s.items.length + 1)) ≤ _ := h2
    by_cases hi : atS s < s.items.length
    · have h5 : (s.items.map fun e => nodesO e.2).getD (atS s) 0 = nodesO (s.items.getD (atS s) (0, O.none)).2 := by
        simp [List.getD_eq_getElem?_getD, List.getElem?_eq_getElem hi]
      rw [h5] at h1
      omega
    · rw [List.set_eq_of_length_le (by simp; omega)]
      omega
theorem size_grow {s : GS} (h : SizeS s) (hl : s.items.length ≤ 80) (c : Nat) : SizeS (growS s c) := by
  obtain ⟨h1, h2⟩ := items_size h hl c
  unfold growS
  split
  · split
    · exact ⟨h.flat, h.nodes⟩
    · exact h
  · split
    · exact ⟨by show ∀ e ∈ itemsS s c, FlatO ((itemsS s c).length + 4) e.2; rw [itemsS_len]; exact h1, by show ((itemsS s c).map _).sum ≤ (itemsS s c).length * 100; rw [itemsS_len]; exact h2⟩
    · exact ⟨by show ∀ e ∈ itemsS s c, FlatO ((itemsS s c).length + 4) e.2; rw [itemsS_len]; exact h1, by show ((itemsS s c).map _).sum ≤ (itemsS s c).length * 100; rw [itemsS_len]; exact h2⟩
def growN (l : List Nat) : GS := l.foldl growS startS
theorem growN_snoc (l : List Nat) (c : Nat) : growN (l ++ [c]) = growS (growN l) c := by unfold growN; rw [List.foldl_append]; rfl
theorem growN_ok (l : List Nat) (hl : l.length ≤ 60) : SizeS (growN l) ∧ (growN l).items.length ≤ 2 + l.length ∧ (growN l).want.length ≤ l.length ∧ (growN l).way.length ≤ 1 + l.length := by
  have go : ∀ (m : List Nat), m.length ≤ 60 → SizeS (growN m.reverse) ∧ (growN m.reverse).items.length ≤ 2 + m.length ∧ (growN m.reverse).want.length ≤ m.length ∧ (growN m.reverse).way.length ≤ 1 + m.length := by
    intro m
    induction m with
    | nil => exact fun _ => ⟨size_start, by decide, by decide, by decide⟩
    | cons c m ih =>
      intro h
      rw [List.length_cons] at h
      obtain ⟨h1, h2, h3, h4⟩ := ih (by omega)
      obtain ⟨g1, g2, g3⟩ := grow_len (growN m.reverse) c
      rw [List.reverse_cons, growN_snoc, List.length_cons]
      exact ⟨size_grow h1 (by omega) c, by omega, by omega, by omega⟩
  have := go l.reverse (by simpa using hl)
  simpa using this
theorem trailerT_small : Small trailerT := (.mk (by simp) (by simp) (by simp) (fun e h => by simp at h; rw [h]; decide) (fun e h => by cases h) (fun e h => by simp at h; rw [h]; exact Small.bare 9 1))
theorem grown_small {s : GS} (h : SizeS s) (hl : s.items.length ≤ 62) : SmallD ⟨0, [], 0, trailerT, s.items⟩ where
  mark := by simp
  len := by show s.items.length ≤ 70; omega
  trailer := trailerT_small
  items := fun e he => (h.flat e he).small (by omega)
  nodes := by
    have h1 := h.nodes
    have h2 : nodesO trailerT = 2 := by simp only [trailerT]; rw [nodesO_mk]; simp [nodes_bare]
    show nodesO trailerT + (s.items.map fun e => nodesO e.2).sum ≤ 20000
    omega
end Go.Cl
