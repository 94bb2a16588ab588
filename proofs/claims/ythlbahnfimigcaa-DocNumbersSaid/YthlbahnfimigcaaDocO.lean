/-
  Documents: numbered by what is reached, in plain.
-/
import Derived.Test.YthlbahnfimigcaaDocI
namespace Go.Cl
def newN : List Int → Int → Int
  | [], _ => 0
  | m :: r, n => if m = n then 1 else if newN r n = 0 then 0 else newN r n + 1
theorem newN_in : ∀ {r : List Int} {n : Int}, n ∈ r → ∃ j, ∃ h : j < r.length, newN r n = ((j + 1 : Nat) : Int) ∧ r[j] = n
  | m :: r, n, h => by
    unfold newN
    by_cases e : m = n
    · rw [if_pos e]; exact ⟨0, by simp, rfl, e⟩
    · rw [if_neg e]
      have h' : n ∈ r := (List.mem_cons.1 h).resolve_left (fun q => e q.symm)
      obtain ⟨j, hj, h1, h2⟩ := newN_in h'
      rw [if_neg (by omega)]
      exact ⟨j + 1, by simp; omega, by rw [h1]; simp, by simpa using h2⟩
theorem newN_out : ∀ {r : List Int} {n : Int}, n ∉ r → newN r n = 0
  | [], _, _ => rfl
  | m :: r, n, h => by
    unfold newN
    rw [if_neg (fun e => h (by rw [e]; exact List.mem_cons_self ..)), newN_out (fun q => h (List.mem_cons_of_mem _ q)), if_pos rfl]
theorem newN_at {r : List Int} (hr : r.Nodup) {j : Nat} (hj : j < r.length) : newN r r[j] = ((j + 1 : Nat) : Int) := by
  obtain ⟨i, hi, h1, h2⟩ := newN_in (List.getElem_mem hj)
  have := (List.getElem_inj hr).1 h2
  rw [h1, this]
theorem newN_inj {r : List Int} {n m : Int} (hn : n ∈ r) (h : newN r n = newN r m) : n = m := by
  obtain ⟨i, hi, h1, h2⟩ := newN_in hn
  by_cases hm : m ∈ r
  · obtain ⟨j, hj, h3, h4⟩ := newN_in hm
    have : i = j := by omega
    subst this
    rw [← h2, ← h4]
  · rw [newN_out hm] at h; omega
theorem MetTo.new {r : List Int} {T : List (Int × Value)} (h : MetTo r T) (hr : r.Nodup) (n : Int) : seekJ n T = if n ∈ r then some (.int .i64 (newN r n)) else Option.none := by
  cases hs : seekJ n T with
  | none => rw [if_neg (h.none n hs)]
  | some v =>
    obtain ⟨j, hj, h1, rfl⟩ := h.found n v hs
    rw [if_pos (h1 ▸ List.getElem_mem hj), ← h1, newN_at hr hj]
def renN (r : List Int) : Nat → O → O
  | 0, o => o
  | m + 1, .mk k n b l d => if k = 9 then (if n ∈ r then .mk 9 (newN r n) [] [] [] else O.none) else if k = 6 then .mk 6 0 [] (l.map (renN r m)) [] else if k = 7 ∨ k = 8 then .mk k 0 b [] ((d.map fun e => (e.1, renN r m e.2)).filter fun e => decide (e.2.kind ≠ 0)) else .mk k n b l d
noncomputable def renO (r : List Int) (o : O) : O := renN r (SizeOf.sizeOf o) o
theorem map_same {α β : Type} {f g : α → β} : ∀ {l : List α}, (∀ x ∈ l, f x = g x) → l.map f = l.map g
  | [], _ => rfl
  | x :: l, h => by rw [List.map_cons, List.map_cons, h x (List.mem_cons_self ..), map_same (fun y hy => h y (List.mem_cons_of_mem _ hy))]
theorem renN_same (r : List Int) : ∀ (m m' : Nat) (o : O), SizeOf.sizeOf o ≤ m → SizeOf.sizeOf o ≤ m' → renN r m o = renN r m' o
  | 0, _, o, h, _ => by have := o.size_pos; omega
  | _ + 1, 0, o, _, h => by have := o.size_pos; omega
  | m + 1, m' + 1, .mk k n b l d, h, h' => by
    unfold renN
    rw [map_same (l := l) (fun x hx => renN_same r m m' x (by have := O.items_lt (k := k) (n := n) (b := b) (d := d) hx; omega) (by have := O.items_lt (k := k) (n := n) (b := b) (d := d) hx; omega)),
      map_same (l := d) (f := fun e => (e.1, renN r m e.2)) (g := fun e => (e.1, renN r m' e.2)) (fun e he => by rw [renN_same r m m' e.2 (by have := O.ents_lt (k := k) (n := n) (b := b) (l := l) he; omega) (by have := O.ents_lt (k := k) (n := n) (b := b) (l := l) he; omega)])]
theorem renO_mk (r : List Int) (k n : Int) (b : List UInt8) (l : List O) (d : List (List UInt8 × O)) : renO r (.mk k n b l d) = if k = 9 then (if n ∈ r then .mk 9 (newN r n) [] [] [] else O.none) else if k = 6 then .mk 6 0 [] (l.map (renO r)) [] else if k = 7 ∨ k = 8 then .mk k 0 b [] ((d.map fun e => (e.1, renO r e.2)).filter fun e => decide (e.2.kind ≠ 0)) else .mk k n b l d := by
  unfold renO
  obtain ⟨q, hq⟩ : ∃ q, SizeOf.sizeOf (O.mk k n b l d) = q + 1 := ⟨SizeOf.sizeOf (O.mk k n b l d) - 1, by have := (O.mk k n b l d).size_pos; omega⟩
  rw [hq]
  conv => lhs; unfold renN
  rw [map_same (l := l) (fun x hx => renN_same r q _ x (by have := O.items_lt (k := k) (n := n) (b := b) (d := d) hx; omega) (Nat.le_refl _)),
    map_same (l := d) (f := fun e => (e.1, renN r q e.2)) (g := fun e => (e.1, renN r (SizeOf.sizeOf e.2) e.2)) (fun e he => by rw [renN_same r q _ e.2 (by have := O.ents_lt (k := k) (n := n) (b := b) (l := l) he; omega) (Nat.le_refl _)])]
theorem flat_same {α β : Type} {f g : α → List β} : ∀ {l : List α}, (∀ x ∈ l, f x = g x) → l.flatMap f = l.flatMap g
  | [], _ => rfl
  | x :: l, h => by rw [List.flatMap_cons, List.flatMap_cons, h x (List.mem_cons_self ..), flat_same (fun y hy => h y (List.mem_cons_of_mem _ hy))]
theorem flat_filter {α β : Type} {f : α → List β} {p : α → Bool} : ∀ {l : List α}, (∀ x ∈ l, p x = false → f x = []) → (l.filter p).flatMap f = l.flatMap f
  | [], _ => rfl
  | x :: l, h => by
    have ih := flat_filter (f := f) (p := p) (l := l) (fun y hy => h y (List.mem_cons_of_mem _ hy))
    rw [List.filter_cons]
    cases hp : p x with
    | true => rw [if_pos rfl, List.flatMap_cons, List.flatMap_cons, ih]
    | false => rw [if_neg (by decide), List.flatMap_cons, ih, h x (List.mem_cons_self ..) hp, List.nil_append]
theorem flat_map_filter {α : Type} (f : α → List Int) (p : Int → Bool) (g : Int → Int) : ∀ l : List α, l.flatMap (fun x => ((f x).filter p).map g) = ((l.flatMap f).filter p).map g
  | [] => rfl
  | x :: l => by rw [List.flatMap_cons, List.flatMap_cons, flat_map_filter f p g l, List.filter_append, List.map_append]
theorem refs_ren (r : List Int) : ∀ (N : Nat) (o : O), SizeOf.sizeOf o ≤ N → refsO (renO r o) = ((refsO o).filter fun n => decide (n ∈ r)).map (newN r) := by
  intro N
  induction N with
  | zero => intro o h; have := o.size_pos; omega
  | succ N ih =>
    intro o h
    cases o with
    | mk k n b l d =>
      rw [renO_mk]
      by_cases k9 : k = 9
      · subst k9
        rw [if_pos rfl, refsO_ref (k := 9) (n := n) rfl]
        by_cases hn : n ∈ r
        · rw [if_pos hn, refsO_ref (k := 9) rfl]; simp [hn]
        · rw [if_neg hn]
          show refsO (.mk 0 0 [] [] []) = _
          rw [refsO_eq, if_neg (by decide), partsO_mk, if_neg (by decide), if_neg (by decide)]
          simp [hn]
      · rw [if_neg k9, refsO_parts (o := .mk k n b l d) k9, partsO_mk]
        by_cases k6 : k = 6
        · rw [if_pos k6, if_pos k6, refsO_parts (o := .mk 6 0 [] _ []) (show ¬ (6 : Int) = 9 by decide), partsO_mk, if_pos rfl, ← flat_map_filter, List.flatMap_map]
          exact flat_same (fun x hx => ih x (by have := O.items_lt (k := k) (n := n) (b := b) (d := d) hx; omega))
        · rw [if_neg k6, if_neg k6]
          by_cases k7 : k = 7 ∨ k = 8
          · rw [if_pos k7, if_pos k7, refsO_parts (o := .mk k 0 b [] _) k9, partsO_mk, if_neg k6, if_pos k7, ← flat_map_filter, List.flatMap_map, List.flatMap_map]
            rw [flat_filter (fun e he hp => by
              have hk : e.2.kind = 0 := by simpa using hp
              obtain ⟨c, o⟩ := e
              cases o with
              | mk k' n' b' l' d' =>
                have hk : k' = 0 := hk
                subst hk
                show refsO (.mk 0 n' b' l' d') = []
                rw [refsO_parts (o := .mk 0 n' b' l' d') (show ¬ (0 : Int) = 9 by decide), partsO_mk, if_neg (by decide), if_neg (by decide)]; rfl), List.flatMap_map]
            exact flat_same (fun e he => ih e.2 (by have := O.ents_lt (k := k) (n := n) (b := b) (l := l) he; omega))
          · rw [if_neg k7, if_neg k7, refsO_parts (o := .mk k n b l d) k9, partsO_mk, if_neg k6, if_neg k7]; rfl
noncomputable def numI (D : List (Int × O)) (r : List Int) : List (Int × O) := r.zipIdx.map fun p => (((p.2 + 1 : Nat) : Int), renO r (findD D p.1).1)
theorem numI_length (D : List (Int × O)) (r : List Int) : (numI D r).length = r.length := by simp [numI]
theorem numI_get {D : List (Int × O)} {r : List Int} {j : Nat} (hj : j < r.length) (h : j < (numI D r).length) : (numI D r)[j] = (((j + 1 : Nat) : Int), renO r (findD D r[j]).1) := by
  simp [numI]
theorem numI_find {D : List (Int × O)} {r : List Int} {n : Int} (hn : n ∈ r) : findD (numI D r) (newN r n) = (renO r (findD D n).1, true) := by
  obtain ⟨j, hj, h1, h2⟩ := newN_in hn
  have hj' : j < (numI D r).length := by rw [numI_length]; exact hj
  rw [findD_at hj' (by rw [numI_get hj hj', h1]) (fun i hi => by
    rw [numI_get (by omega) (by omega), h1]
    show ((i + 1 : Nat) : Int) ≠ ((j + 1 : Nat) : Int)
    omega), numI_get hj hj', h2]
theorem WalksN.pre {D : List (Int × O)} {k : Nat} {st l r : List Int} (h : WalksN D k st l r) : ∀ n ∈ l, n ∈ r := by
  induction h with
  | done l => exact fun n h => h
  | skip k n st l r _ _ ih => exact ih
  | meet k n st l r _ _ _ ih => exact fun m hm => ih m (List.mem_append_left _ hm)
theorem ren_walks {D : List (Int × O)} {k : Nat} {st l r : List Int} (h : WalksN D k st l r) : (∀ n ∈ r, (findD D n).2 = true) → ∃ k', WalksN (numI D r) k' ((st.filter fun n => decide (n ∈ r)).map (newN r)) (l.map (newN r)) (r.map (newN r)) := by
  induction h with
  | done l => exact fun _ => ⟨0, .done _⟩
  | skip k n st l r h w ih =>
    intro hf
    obtain ⟨k', hk⟩ := ih hf
    by_cases hn : n ∈ r
    · have hl : n ∈ l := h.resolve_left (fun e => by rw [hf n hn] at e; cases e)
      refine ⟨k' + 1, ?_⟩
      rw [List.filter_cons, if_pos (by simpa using hn), List.map_cons]
      exact .skip _ _ _ _ _ (.inr (List.mem_map_of_mem hl)) hk
    · refine ⟨k', ?_⟩
      rw [List.filter_cons, if_neg (by simpa using hn)]
      exact hk
  | meet k n st l r h1 h2 w ih =>
    intro hf
    obtain ⟨k', hk⟩ := ih hf
    have hn : n ∈ r := w.pre n (List.mem_append_right _ (List.mem_singleton.2 rfl))
    refine ⟨k' + 1, ?_⟩
    rw [List.filter_cons, if_pos (by simpa using hn), List.map_cons]
    have hfn := numI_find (D := D) hn
    refine .meet _ _ _ _ _ (by rw [hfn]) (fun hm => ?_) ?_
    · obtain ⟨m, hm1, hm2⟩ := List.mem_map.1 hm
      exact h2 (by rw [newN_inj hn hm2.symm]; exact hm1)
    · rw [hfn, refs_ren r _ _ (Nat.le_refl _)]
      rw [List.filter_append, List.map_append, List.map_append] at hk
      exact hk
theorem newN_list {r : List Int} (hr : r.Nodup) : r.map (newN r) = (List.range r.length).map fun i => ((i + 1 : Nat) : Int) := by
  refine List.ext_getElem (by simp) (fun i h1 h2 => ?_)
  rw [List.getElem_map, newN_at hr (by simpa using h1)]
  simp
theorem range_nodup (m : Nat) : ((List.range m).map fun i => ((i + 1 : Nat) : Int)).Nodup := by
  unfold List.Nodup
  rw [List.pairwise_map]
  exact List.nodup_range.imp (fun h e => h (by omega))
theorem newN_range {m : Nat} {j : Nat} (hj : j < m) : newN ((List.range m).map fun i => ((i + 1 : Nat) : Int)) ((j + 1 : Nat) : Int) = ((j + 1 : Nat) : Int) := by
  have h := newN_at (range_nodup m) (j := j) (by simpa using hj)
  simpa using h
theorem ren_again (r : List Int) : ∀ (N : Nat) (o : O), SizeOf.sizeOf o ≤ N → renO ((List.range r.length).map fun i => ((i + 1 : Nat) : Int)) (renO r o) = renO r o := by
  intro N
  induction N with
  | zero => intro o h; have := o.size_pos; omega
  | succ N ih =>
    intro o h
    cases o with
    | mk k n b l d =>
      rw [renO_mk r]
      by_cases k9 : k = 9
      · subst k9
        rw [if_pos rfl]
        by_cases hn : n ∈ r
        · rw [if_pos hn, renO_mk, if_pos rfl]
          obtain ⟨j, hj, h1, h2⟩ := newN_in hn
          rw [h1, newN_range hj, if_pos (List.mem_map.2 ⟨j, List.mem_range.2 hj, rfl⟩)]
        · rw [if_neg hn]
          show renO _ (.mk 0 0 [] [] []) = _
          rw [renO_mk, if_neg (by decide), if_neg (by decide), if_neg (by decide)]; rfl
      · rw [if_neg k9]
        by_cases k6 : k = 6
        · rw [if_pos k6, renO_mk, if_neg (by decide), if_pos rfl, List.map_map]
          congr 1
          exact map_same (fun x hx => ih x (by have := O.items_lt (k := k) (n := n) (b := b) (d := d) hx; omega))
        · rw [if_neg k6]
          by_cases k7 : k = 7 ∨ k = 8
          · rw [if_pos k7, renO_mk, if_neg k9, if_neg k6, if_pos k7]
            congr 1
            have e : ∀ x ∈ ((d.map fun e => (e.1, renO r e.2)).filter fun e => decide (e.2.kind ≠ 0)), (x.1, renO ((List.range r.length).map fun i => ((i + 1 : Nat) : Int)) x.2) = x := by
              intro x hx
              obtain ⟨e, he, rfl⟩ := List.mem_map.1 (List.mem_filter.1 hx).1
              show (e.1, renO _ (renO r e.2)) = (e.1, renO r e.2)
              rw [ih e.2 (by have := O.ents_lt (k := k) (n := n) (b := b) (l := l) he; omega)]
            rw [map_same e, List.map_id', List.filter_filter]
            congr 1
            funext x
            simp
          · rw [if_neg k7, renO_mk, if_neg k9, if_neg k6, if_neg k7]
theorem ren_small (r : List Int) : ∀ (N : Nat) (o : O), SizeOf.sizeOf o ≤ N → Small o → Small (renO r o) := by
  intro N
  induction N with
  | zero => intro o h; have := o.size_pos; omega
  | succ N ih =>
    intro o h hs
    cases hs with
    | mk hb hl hd hK hL hD =>
      rename_i k n b l d
      rw [renO_mk]
      split
      · split
        · exact .mk (by simp) (by simp) (by simp) (fun e h => by cases h) (fun e h => by cases h) (fun e h => by cases h)
        · exact .mk (by simp) (by simp) (by simp) (fun e h => by cases h) (fun e h => by cases h) (fun e h => by cases h)
      · split
        · refine .mk (by simp) (by rw [List.length_map]; exact hl) (by simp) (fun e h => by cases h) (fun x hx => ?_) (fun e h => by cases h)
          obtain ⟨y, hy, rfl⟩ := List.mem_map.1 hx
          exact ih y (by have := O.items_lt (k := k) (n := n) (b := b) (d := d) hy; omega) (hL y hy)
        · split
          · have hm : ∀ e ∈ ((d.map fun e => (e.1, renO r e.2)).filter fun e => decide (e.2.kind ≠ 0)), e.1.length ≤ 100000 ∧ Small e.2 := by
              intro e he
              obtain ⟨y, hy, rfl⟩ := List.mem_map.1 (List.mem_filter.1 he).1
              exact ⟨hK y hy, ih y.2 (by have := O.ents_lt (k := k) (n := n) (b := b) (l := l) hy; omega) (hD y hy)⟩
            refine .mk hb (by simp) ?_ (fun e he => (hm e he).1) (fun e h => by cases h) (fun e he => (hm e he).2)
            have := List.length_filter_le (fun e : List UInt8 × O => decide (e.2.kind ≠ 0)) (d.map fun e => (e.1, renO r e.2))
            rw [List.length_map] at this
            omega
          · exact .mk hb hl hd hK hL hD
theorem sum_le {α : Type} {f g : α → Nat} : ∀ {l : List α}, (∀ x ∈ l, f x ≤ g x) → (l.map f).sum ≤ (l.map g).sum
  | [], _ => Nat.le_refl _
  | x :: l, h => by
    rw [List.map_cons, List.map_cons, List.sum_cons, List.sum_cons]
    have h1 := h x (List.mem_cons_self ..)
    have h2 := sum_le (l := l) (fun y hy => h y (List.mem_cons_of_mem _ hy))
    omega
theorem sum_filter {α : Type} {f : α → Nat} {p : α → Bool} : ∀ l : List α, ((l.filter p).map f).sum ≤ (l.map f).sum
  | [] => Nat.le_refl _
  | x :: l => by
    have ih := sum_filter (f := f) (p := p) l
    rw [List.filter_cons]
    split <;> simp only [List.map_cons, List.sum_cons] <;> omega
theorem ren_nodes (r : List Int) : ∀ (N : Nat) (o : O), SizeOf.sizeOf o ≤ N → nodesO (renO r o) ≤ nodesO o := by
  intro N
  induction N with
  | zero => intro o h; have := o.size_pos; omega
  | succ N ih =>
    intro o h
    cases o with
    | mk k n b l d =>
      rw [renO_mk, nodesO_mk k n b l d]
      split
      · split
        · rw [nodesO_mk]; simp; omega
        · show nodesO (.mk 0 0 [] [] []) ≤ _
          rw [nodesO_mk]; simp; omega
      · split
        · rw [nodesO_mk, List.map_map]
          have := sum_le (l := l) (f := nodesO ∘ renO r) (g := nodesO) (fun x hx => ih x (by have := O.items_lt (k := k) (n := n) (b := b) (d := d) hx; omega))
          simp only [List.map_nil, List.sum_nil]
          omega
        · split
          · rw [nodesO_mk]
            have h1 := sum_filter (f := fun e : List UInt8 × O => nodesO e.2) (p := fun e => decide (e.2.kind ≠ 0)) (d.map fun e => (e.1, renO r e.2))
            rw [List.map_map] at h1
            have h1 : _ ≤ (d.map fun e : List UInt8 × O => nodesO (renO r e.2)).sum := h1
            have h2 := sum_le (l := d) (f := fun e : List UInt8 × O => nodesO (renO r e.2)) (g := fun e => nodesO e.2) (fun e he => ih e.2 (by have := O.ents_lt (k := k) (n := n) (b := b) (l := l) he; omega))
            simp only [List.map_nil, List.sum_nil]
            omega
          · rw [nodesO_mk]; exact Nat.le_refl _
theorem sum_met {D : List (Int × O)} (f : O → Nat) : ∀ r : List Int, r.Nodup → (∀ n ∈ r, (findD D n).2 = true) → (r.map fun n => f (findD D n).1).sum ≤ (D.map fun e => if e.1 ∈ r then f e.2 else 0).sum
  | [], _, _ => by simp
  | n :: r, hr, hf => by
    rw [List.nodup_cons] at hr
    have ih := sum_met f r hr.2 (fun m hm => hf m (List.mem_cons_of_mem _ hm))
    obtain ⟨e, he, hen, hfe⟩ := findD_mem (hf n (List.mem_cons_self ..))
    rw [List.map_cons, List.sum_cons]
    have key : ∀ D : List (Int × O), (D.map fun e => if e.1 ∈ r then f e.2 else 0).sum + (D.map fun e => if e.1 = n then f e.2 else 0).sum = (D.map fun e => if e.1 ∈ n :: r then f e.2 else 0).sum := by
      intro D
      induction D with
      | nil => rfl
      | cons d D ih =>
        simp only [List.map_cons, List.sum_cons, List.mem_cons]
        simp only [List.mem_cons] at ih
        by_cases c1 : d.1 = n
        · have c2 : d.1 ∉ r := by rw [c1]; exact hr.1
          simp only [c1, hr.1, if_true, if_false, true_or]
          omega
        · simp only [c1, if_false, false_or]
          omega
    have h1 := key D
    have h2 := le_sum (f := fun e : Int × O => if e.1 = n then f e.2 else 0) he
    simp only [hen, if_true] at h2
    rw [hfe]
    omega
theorem sum_met_le {D : List (Int × O)} (f : O → Nat) {r : List Int} (hr : r.Nodup) (hf : ∀ n ∈ r, (findD D n).2 = true) : (r.map fun n => f (findD D n).1).sum ≤ (D.map fun e => f e.2).sum :=
  Nat.le_trans (sum_met f r hr hf) (sum_le (fun e _ => by split <;> omega))
noncomputable def numD (D : Dc) (r : List Int) : Dc := ⟨D.minor, D.mark, D.tail, renO r D.trailer, numI D.items r⟩
theorem numD_small {D : Dc} (h : SmallD D) {r : List Int} (hr : r.Nodup) (hf : ∀ n ∈ r, (findD D.items n).2 = true) : SmallD (numD D r) := by
  have hz : ∀ g : O → Nat, ((numI D.items r).map fun e => g e.2) = r.map fun n => g (renO r (findD D.items n).1) := by
    intro g
    refine List.ext_getElem (by simp [numI]) (fun i h1 h2 => ?_)
    simp [numI]
  refine ⟨h.mark, ?_, ren_small r _ _ (Nat.le_refl _) h.trailer, fun e he => ?_, ?_⟩
  · have := sum_met_le (fun _ => 1) hr hf
    have e1 : ∀ {α : Type} (l : List α), (l.map fun _ => 1).sum = l.length := fun l => by induction l with
      | nil => rfl
      | cons x l ih => rw [List.map_cons, List.sum_cons, ih, List.length_cons]; omega
    rw [e1, e1] at this
    show (numI D.items r).length ≤ 60
    rw [numI_length]
    have := h.len
    omega
  · obtain ⟨p, hp, rfl⟩ := List.mem_map.1 he
    refine ren_small r _ _ (Nat.le_refl _) ?_
    have hm : p.1 ∈ r := by
      obtain ⟨a, i⟩ := p
      have := List.mem_zipIdx hp
      exact this.2.2 ▸ List.getElem_mem _
    obtain ⟨e, he, -, h2⟩ := findD_mem (hf _ hm)
    rw [h2]; exact h.items e he
  · show nodesO (renO r D.trailer) + ((numI D.items r).map fun e => nodesO e.2).sum ≤ 20000
    rw [hz nodesO]
    have h1 := ren_nodes r _ D.trailer (Nat.le_refl _)
    have h2 := sum_le (l := r) (f := fun n => nodesO (renO r (findD D.items n).1)) (g := fun n => nodesO (findD D.items n).1) (fun n _ => ren_nodes r _ _ (Nat.le_refl _))
    have h3 := sum_met_le nodesO hr hf
    have := h.nodes
    omega
end Go.Cl
