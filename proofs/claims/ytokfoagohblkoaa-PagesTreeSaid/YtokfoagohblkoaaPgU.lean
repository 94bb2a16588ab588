import Derived.Test.YtokfoagohblkoaaPgT
import Derived.Test.YtokfoagohblkoaaPre
import Derived.Test.YtokfoagohblkoaaPgI
set_option linter.unusedSimpArgs false
set_option linter.unusedVariables false
set_option maxRecDepth 100000
namespace Go.Cl
theorem over_cons {l : List Value} {off : Nat} {vs : List Value} (h : off < l.length) : over l (off + 1) vs = over l off (l.getD off undef :: vs) := by
  unfold over
  rw [List.take_succ_eq_append_getElem h, List.getD_eq_getElem?_getD, List.getElem?_eq_getElem h]
  simp only [List.append_assoc, List.cons_append, List.nil_append, List.length_cons, Option.getD_some]
  rw [show off + 1 + vs.length = off + (vs.length + 1) by omega]
theorem ORows.put {α : Type} {Q : (Nat → Prop) → ASt → List Value → α → Prop} {z : Nat} {D : List α} {lc : List Value} {F : Nat → Prop} {s : ASt} (h : ORows Q z F s D lc) {k : Nat} (hk : k < D.length) {cs : List Value} {d : α} (hc : cs.length = z) (hd : Q F s cs d) : ORows Q z F s (D.set k d) (over lc (k * z) cs) := by
  have hl := h.len
  have hkz : k * z + z ≤ lc.length := by
    have : (k + 1) * z ≤ D.length * z := Nat.mul_le_mul_right z hk
    rw [Nat.succ_mul] at this
    omega
  refine ⟨by rw [over_length (by omega), hl, List.length_set], fun i hi => ?_⟩
  rw [List.length_set] at hi
  have htk : (lc.take (k * z)).length = k * z := by rw [List.length_take]; omega
  by_cases hik : i = k
  · subst hik
    rw [List.getElem_set_self]
    have e : ((over lc (i * z) cs).drop (i * z)).take z = cs := by
      unfold over
      rw [List.append_assoc, List.drop_append_of_le_length (by omega), List.drop_of_length_le (by omega), List.nil_append, List.take_append_of_le_length (by omega), List.take_of_length_le (by omega)]
    rw [e]; exact hd
  · rw [List.getElem_set_ne (Ne.symm hik)]
    have e : ((over lc (k * z) cs).drop (i * z)).take z = (lc.drop (i * z)).take z := by
      unfold over
      by_cases hlt : i < k
      · have : (i + 1) * z ≤ k * z := Nat.mul_le_mul_right z hlt
        rw [Nat.succ_mul] at this
        rw [List.append_assoc, List.drop_append_of_le_length (by omega), List.take_append_of_le_length (by rw [List.length_drop]; omega), List.drop_take, List.take_take, Nat.min_eq_left (by omega)]
      · have : (k + 1) * z ≤ i * z := Nat.mul_le_mul_right z (by omega)
        rw [Nat.succ_mul] at this
        rw [List.drop_append, List.drop_of_length_le (l := lc.take (k * z) ++ cs) (by rw [List.length_append]; omega), List.nil_append, List.drop_drop, List.length_append, htk, hc]
        congr 2; omega
    rw [e]; exact h.row i hi
def wpC (e : Nat × Int) : List Value := lfC Z4 Z4 e.2 noneC ++ (.int .i64 (e.1 : Int) :: noneC)
def wantC (W : List (Nat × Int)) : List Value := W.flatMap wpC
theorem wpC_len (e : Nat × Int) : (wpC e).length = 20 := rfl
theorem wantC_snoc (W : List (Nat × Int)) (e : Nat × Int) : wantC (W ++ [e]) = wantC W ++ wpC e := by simp [wantC]
theorem wantC_get (W : List (Nat × Int)) : ∀ (i j : Nat) (_ : j < 20) (h : i < W.length), (wantC W).getD (i * 20 + j) undef = (wpC W[i]).getD j undef := by
  induction W with
  | nil => intro i j _ h; cases h
  | cons e W ih =>
    intro i j hj h
    have hw : wantC (e :: W) = wpC e ++ wantC W := rfl
    rw [hw]
    cases i with
    | zero =>
      simp only [List.getD_eq_getElem?_getD]
      rw [List.getElem?_append_left (by rw [wpC_len]; omega)]
      simp
    | succ i =>
      rw [List.length_cons] at h
      have := ih i j hj (by omega)
      simp only [List.getD_eq_getElem?_getD] at this ⊢
      rw [List.getElem?_append_right (by rw [wpC_len]; omega), wpC_len, show (i + 1) * 20 + j - 20 = i * 20 + j by omega, this]
      rfl
theorem Own.elem_id {s : ASt} {z : Nat} {v : Value} {n : Nat} {l : List Value} (h : Own s z v n l) {k i off c : Nat} (e : elemPtr z v k = .pointer (some ⟨i, off, some c⟩)) : idOf v = some i ∧ i < s.next := by
  cases h with
  | nil => cases e
  | of y n' low l' hi' hb' =>
    injection e with e
    injection e with e
    injection e with e1 e2 e3
    exact ⟨congrArg some e1, by rw [← e1]; exact hi'⟩
theorem Turns.after {v : Value} {s s1 s' : ASt} (k : Stay s.next s s1) (h : Turns v s1 s') : Turns v s s' :=
  ⟨by have := k.next; have := h.next; omega, fun i hi hne => (h.get i (by have := k.next; omega) hne).trans (k.get i hi)⟩
def wayV (l : List Nat) : List Value := intsV (l.map fun n : Nat => (n : Int))
theorem inv_way {s : GS} (h : InvS s) : 1 ≤ s.way.length ∧ s.turns.length = s.way.length ∧ atS s < s.items.length := by
  obtain ⟨F, hc, hw, ht, _⟩ := h.chain
  cases F with
  | nil => cases hc
  | cons f rest =>
    obtain ⟨h1, h2⟩ := hc.top
    have hwe : s.way = (rest.reverse.map fun f => f.n - 1) ++ [f.n - 1] := by rw [hw]; simp
    refine ⟨by rw [hwe]; simp, by rw [hw, ht]; simp, ?_⟩
    have : atS s = f.n - 1 := by unfold atS; rw [hwe]; exact getD_last _ _ _
    omega
structure GrIs (b : Nat) (F : Nat → Prop) (s : ASt) (dp : Nat) (tc : List Value) (x w t p : Value) (lx : List Value) (g : GS) : Prop where
  doc : Thing s dp (docC ⟨0, [], 0, trailerT, []⟩ (.slice none 0 0) tc x)
  tr : OIs F s tc trailerT
  its : Own s 6 x g.items.length lx
  rows : ORows ItIs 6 F s g.items lx
  way : Pre s 1 w g.way.length (wayV g.way)
  turns : Pre s 1 t g.turns.length (intsV g.turns)
  want : Own s 20 p g.want.length (wantC g.want)
  dF : b ≤ dp
  xF : ∀ j, idOf x = some j → b ≤ j ∧ j ≠ dp
  wF : ∀ j, idOf w = some j → b ≤ j ∧ j ≠ dp ∧ idOf x ≠ some j
  tF : ∀ j, idOf t = some j → b ≤ j ∧ j ≠ dp ∧ idOf x ≠ some j ∧ idOf w ≠ some j
  pF : ∀ j, idOf p = some j → b ≤ j ∧ j ≠ dp ∧ idOf x ≠ some j ∧ idOf w ≠ some j ∧ idOf t ≠ some j
  Fb : ∀ j, F j → b ≤ j ∧ j < s.next ∧ j ≠ dp ∧ idOf x ≠ some j ∧ idOf w ≠ some j ∧ idOf t ≠ some j ∧ idOf p ≠ some j
section
variable {b : Nat} {F G : Nat → Prop} {s s' : ASt} {dp : Nat} {tc : List Value} {x w t p x' w' t' p' : Value} {lx : List Value} {g : GS}
theorem GrIs.keeps (h : GrIs b F s dp tc x w t p lx g) (k : Stay s.next s s') : GrIs b F s' dp tc x w t p lx g :=
  ⟨h.doc.keeps k, h.tr.keeps k, h.its.keeps k, h.rows.keeps rowedI k, h.way.keeps k, h.turns.keeps k, h.want.keeps k, h.dF, h.xF, h.wF, h.tF, h.pF, fun j hj => by obtain ⟨h1, h2, h3⟩ := h.Fb j hj; exact ⟨h1, by have := k.next; omega, h3⟩⟩
theorem GrIs.news (h : GrIs b F s dp tc x w t p lx g) {j : Nat} (hj : s.next ≤ j) : b ≤ j ∧ j ≠ dp ∧ idOf x ≠ some j ∧ idOf w ≠ some j ∧ idOf t ≠ some j ∧ idOf p ≠ some j := by
  have h1 := h.doc.lt
  have h2 := h.dF
  exact ⟨by omega, by omega, fun e => by have := h.its.idlt _ e; omega, fun e => by have := h.way.idlt _ e; omega, fun e => by have := h.turns.idlt _ e; omega, fun e => by have := h.want.idlt _ e; omega⟩
theorem GrIs.item (h : GrIs b F s dp tc x w t p lx g) {k : Nat} (hk : k < g.items.length) {cs : List Value} {o : O} (hx : Own s' 6 x g.items.length (over lx (k * 6 + 1) cs)) (hu : Turns x s s') (ho : OIs G s cs o) (hG : ∀ j, G j → b ≤ j ∧ j < s.next ∧ j ≠ dp ∧ idOf x ≠ some j ∧ idOf w ≠ some j ∧ idOf t ≠ some j ∧ idOf p ≠ some j) :
    GrIs b (fun j => F j ∨ G j) s' dp tc x w t p (over lx (k * 6 + 1) cs) { g with items := g.items.set k (g.items[k].1, o) } := by
  have hn := hu.next
  have hFx : ∀ j, (F j ∨ G j) → idOf x ≠ some j := fun j hj => hj.elim (fun q => (h.Fb j q).2.2.2.1) (fun q => (hG j q).2.2.2.1)
  have hl := h.rows.len
  obtain ⟨r, hr, hro⟩ := h.rows.row k hk
  have hlt : k * 6 < lx.length := by omega
  have hg : lx.getD (k * 6) undef = .int .i64 g.items[k].1 := by
    have : ((lx.drop (k * 6)).take 6)[0]? = some (.int .i64 g.items[k].1) := by rw [hr]; rfl
    rw [List.getElem?_take_of_lt (by omega), List.getElem?_drop, Nat.add_zero] at this
    rw [List.getD_eq_getElem?_getD, this]; rfl
  refine ⟨h.doc.turns hu (fun e => (h.xF _ e).2 rfl), (h.tr.turns hu fun j hj => (h.Fb j hj).2.2.2.1).mono fun j hj => .inl hj, by simpa using hx, ?_, h.way.turns hu fun j hj => (h.wF j hj).2.2, h.turns.turns hu fun j hj => (h.tF j hj).2.2.1, h.want.turns hu fun j hj => (h.pF j hj).2.2.1, h.dF, h.xF, h.wF, h.tF, h.pF, fun j hj => hj.elim (fun q => by obtain ⟨h1, h2, h3⟩ := h.Fb j q; exact ⟨h1, by omega, h3⟩) (fun q => by obtain ⟨h1, h2, h3⟩ := hG j q; exact ⟨h1, by omega, h3⟩)⟩
  rw [over_cons hlt, hg]
  have h1 : ORows ItIs 6 (fun j => F j ∨ G j) s g.items lx := h.rows.mono rowedI fun j hj => .inl hj
  have h2 : ItIs (fun j => F j ∨ G j) s (.int .i64 g.items[k].1 :: cs) (g.items[k].1, o) := ⟨cs, rfl, ho.mono fun j hj => .inr hj⟩
  exact (h1.put hk (by rw [List.length_cons, ho.len]) h2).turns rowedI hu hFx
theorem GrIs.push (h : GrIs b F s dp tc x w t p lx g) {u : ASt} {cs : List Value} {e : Int × O} (hx : Own s' 6 x' (g.items.length + 1) (lx ++ cs)) (hu : Turns x s s') (hor : idOf x' = idOf x ∨ ∃ i, idOf x' = some i ∧ s.next ≤ i) (ho : ItIs G s cs e) (hG : ∀ j, G j → b ≤ j ∧ j < s.next ∧ j ≠ dp ∧ idOf x ≠ some j ∧ idOf w ≠ some j ∧ idOf t ≠ some j ∧ idOf p ≠ some j)
    (h1 : u.next = s'.next) (h2 : ∀ j, j ≠ dp → u.heap.get j = s'.heap.get j) (hd : Thing u dp (docC ⟨0, [], 0, trailerT, []⟩ (.slice none 0 0) tc x')) :
    GrIs b (fun j => F j ∨ G j) u dp tc x' w t p (lx ++ cs) { g with items := g.items ++ [e] } := by
  have hn := hu.next
  have hdl := h.doc.lt
  have hdb := h.dF
  have hFx : ∀ j, (F j ∨ G j) → b ≤ j ∧ j < s.next ∧ j ≠ dp ∧ idOf x ≠ some j ∧ idOf w ≠ some j ∧ idOf t ≠ some j ∧ idOf p ≠ some j := fun j hj => hj.elim (h.Fb j) (hG j)
  have hv : Turns (.pointer (some ⟨dp, 0, none⟩)) s' u := Turns.ofPut h1 h2
  have hdv : ∀ j, j ≠ dp → idOf (.pointer (some ⟨dp, 0, none⟩)) ≠ some j := fun j hj e => by
    have e : some dp = some j := e
    injection e with e; exact hj e.symm
  have hx' : ∀ j, idOf x' = some j → idOf x = some j ∨ s.next ≤ j := fun j hj => by
    rcases hor with q | ⟨i, q1, q2⟩
    · exact .inl (by rw [← q]; exact hj)
    · rw [q1] at hj; injection hj with hj; exact .inr (by omega)
  have hlow : ∀ j, j < s.next → idOf x ≠ some j → idOf x' ≠ some j := fun j hj hne e => (hx' j e).elim hne (fun q => by omega)
  have hxd : ∀ j, idOf x' = some j → b ≤ j ∧ j ≠ dp := fun j hj => (hx' j hj).elim (h.xF j) (fun q => by omega)
  have hrow : ORows ItIs 6 (fun j => F j ∨ G j) s (g.items ++ [e]) (lx ++ cs) := (h.rows.mono rowedI fun j hj => .inl hj).snoc ho.len (rowedI.mono ho fun j hj => .inr hj)
  refine ⟨hd, ((h.tr.turns hu fun j hj => (h.Fb j hj).2.2.2.1).turns hv fun j hj => hdv j (h.Fb j hj).2.2.1).mono fun j hj => .inl hj, ?_, (hrow.turns rowedI hu fun j hj => (hFx j hj).2.2.2.1).turns rowedI hv fun j hj => hdv j (hFx j hj).2.2.1, (h.way.turns hu fun j hj => (h.wF j hj).2.2).turns hv fun j hj => hdv j (h.wF j hj).2.1, (h.turns.turns hu fun j hj => (h.tF j hj).2.2.1).turns hv fun j hj => hdv j (h.tF j hj).2.1, (h.want.turns hu fun j hj => (h.pF j hj).2.2.1).turns hv fun j hj => hdv j (h.pF j hj).2.1, hdb, hxd, ?_, ?_, ?_, ?_⟩
  · have := hx.turns hv fun j hj => hdv j (hxd j hj).2
    simpa using this
  · exact fun j hj => by obtain ⟨q1, q2, q3⟩ := h.wF j hj; exact ⟨q1, q2, hlow j (h.way.idlt j hj) q3⟩
  · exact fun j hj => by obtain ⟨q1, q2, q3, q4⟩ := h.tF j hj; exact ⟨q1, q2, hlow j (h.turns.idlt j hj) q3, q4⟩
  · exact fun j hj => by obtain ⟨q1, q2, q3, q4⟩ := h.pF j hj; exact ⟨q1, q2, hlow j (h.want.idlt j hj) q3, q4⟩
  · exact fun j hj => by obtain ⟨q1, q2, q3, q4, q5⟩ := hFx j hj; exact ⟨q1, by omega, q3, hlow j q2 q4, q5⟩
theorem GrIs.go (h : GrIs b F s dp tc x w t p lx g) {u : ASt} {n : Nat} {r : Int} (hw : Pre s' 1 w' (g.way.length + 1) (wayV g.way ++ [.int .i64 (n : Int)])) (hu : Turns w s s') (hor : idOf w' = idOf w ∨ ∃ i, idOf w' = some i ∧ s.next ≤ i)
    (ht : Pre u 1 t' (g.turns.length + 1) (intsV g.turns ++ [.int .i64 r])) (hv : Turns t s' u) (hor' : idOf t' = idOf t ∨ ∃ i, idOf t' = some i ∧ s'.next ≤ i) :
    GrIs b F u dp tc x w' t' p lx { g with way := g.way ++ [n], turns := g.turns ++ [r] } := by
  have hn := hu.next
  have hn' := hv.next
  have hdl := h.doc.lt
  have hdb := h.dF
  have hw' : ∀ j, idOf w' = some j → idOf w = some j ∨ s.next ≤ j := fun j hj => by
    rcases hor with q | ⟨i, q1, q2⟩
    · exact .inl (by rw [← q]; exact hj)
    · rw [q1] at hj; injection hj with hj; exact .inr (by omega)
  have ht' : ∀ j, idOf t' = some j → idOf t = some j ∨ s'.next ≤ j := fun j hj => by
    rcases hor' with q | ⟨i, q1, q2⟩
    · exact .inl (by rw [← q]; exact hj)
    · rw [q1] at hj; injection hj with hj; exact .inr (by omega)
  have hlw : ∀ j, j < s.next → idOf w ≠ some j → idOf w' ≠ some j := fun j hj hne e => (hw' j e).elim hne (fun q => by omega)
  have hlt : ∀ j, j < s.next → idOf t ≠ some j → idOf t' ≠ some j := fun j hj hne e => (ht' j e).elim hne (fun q => by omega)
  have hxl := h.its.idlt
  have hpl := h.want.idlt
  have hdw : idOf w ≠ some dp := fun e => (h.wF _ e).2.1 rfl
  have hdt : idOf t ≠ some dp := fun e => (h.tF _ e).2.1 rfl
  have hxw : ∀ j, idOf x = some j → idOf w ≠ some j := fun j hj e => (h.wF _ e).2.2 hj
  have hxt : ∀ j, idOf x = some j → idOf t ≠ some j := fun j hj e => (h.tF _ e).2.2.1 hj
  have hpw : ∀ j, idOf p = some j → idOf w ≠ some j := fun j hj => (h.pF _ hj).2.2.2.1
  have hpt : ∀ j, idOf p = some j → idOf t ≠ some j := fun j hj => (h.pF _ hj).2.2.2.2
  have htw' : ∀ j, idOf w' = some j → idOf t ≠ some j := fun j hj e => (hw' j hj).elim (fun q => (h.tF _ e).2.2.2 q) (fun q => by have := h.turns.idlt _ e; omega)
  refine ⟨(h.doc.turns hu hdw).turns hv hdt, (h.tr.turns hu fun j hj => (h.Fb j hj).2.2.2.2.1).turns hv fun j hj => (h.Fb j hj).2.2.2.2.2.1, (h.its.turns hu hxw).turns hv hxt, (h.rows.turns rowedI hu fun j hj => (h.Fb j hj).2.2.2.2.1).turns rowedI hv fun j hj => (h.Fb j hj).2.2.2.2.2.1, ?_, ?_, (h.want.turns hu hpw).turns hv hpt, hdb, h.xF, ?_, ?_, ?_, ?_⟩
  · have := hw.turns hv htw'
    simpa [wayV, intsV] using this
  · simpa [intsV] using ht
  · exact fun j hj => (hw' j hj).elim (h.wF j) (fun q => ⟨by omega, by omega, fun e => by have := hxl _ e; omega⟩)
  · intro j hj
    rcases ht' j hj with q | q
    · obtain ⟨q1, q2, q3, q4⟩ := h.tF j q
      exact ⟨q1, q2, q3, hlw j (h.turns.idlt j q) q4⟩
    · exact ⟨by omega, by omega, fun e => by have := hxl _ e; omega, fun e => by have := hw.idlt _ e; omega⟩
  · intro j hj
    obtain ⟨q1, q2, q3, q4, q5⟩ := h.pF j hj
    exact ⟨q1, q2, q3, hlw j (hpl j hj) q4, hlt j (hpl j hj) q5⟩
  · intro j hj
    obtain ⟨q1, q2, q3, q4, q5, q6, q7⟩ := h.Fb j hj
    exact ⟨q1, by omega, q3, q4, hlw j q2 q5, hlt j q2 q6, q7⟩
theorem GrIs.back (h : GrIs b F s dp tc x w t p lx g) {k : Nat} (hk : k ≤ g.way.length) (hk2 : k ≤ g.turns.length) (hw : Pre s 1 w' k ((wayV g.way).take (k * 1))) (hi : idOf w' = idOf w) (ht : Pre s 1 t' k ((intsV g.turns).take (k * 1))) (hi' : idOf t' = idOf t) :
    GrIs b F s dp tc x w' t' p lx { g with way := g.way.take k, turns := g.turns.take k } := by
  refine ⟨h.doc, h.tr, h.its, h.rows, ?_, ?_, h.want, h.dF, h.xF, ?_, ?_, ?_, ?_⟩
  · have e : wayV (g.way.take k) = (wayV g.way).take (k * 1) := by simp [wayV, intsV, List.map_take]
    show Pre s 1 w' (g.way.take k).length (wayV (g.way.take k))
    rw [e, List.length_take, Nat.min_eq_left hk]; exact hw
  · have e : intsV (g.turns.take k) = (intsV g.turns).take (k * 1) := by simp [intsV, List.map_take]
    show Pre s 1 t' (g.turns.take k).length (intsV (g.turns.take k))
    rw [e, List.length_take, Nat.min_eq_left hk2]; exact ht
  · rw [hi]; exact h.wF
  · rw [hi', hi]; exact h.tF
  · rw [hi', hi]; exact h.pF
  · rw [hi', hi]; exact h.Fb
theorem GrIs.wants (h : GrIs b F s dp tc x w t p lx g) {e : Nat × Int} (hp : Own s' 20 p' (g.want.length + 1) (wantC g.want ++ wpC e)) (hu : Turns p s s') (hor : idOf p' = idOf p ∨ ∃ i, idOf p' = some i ∧ s.next ≤ i) :
    GrIs b F s' dp tc x w t p' lx { g with want := g.want ++ [e] } := by
  have hn := hu.next
  have hdl := h.doc.lt
  have hdb := h.dF
  have hp' : ∀ j, idOf p' = some j → idOf p = some j ∨ s.next ≤ j := fun j hj => by
    rcases hor with q | ⟨i, q1, q2⟩
    · exact .inl (by rw [← q]; exact hj)
    · rw [q1] at hj; injection hj with hj; exact .inr (by omega)
  have hlp : ∀ j, j < s.next → idOf p ≠ some j → idOf p' ≠ some j := fun j hj hne e => (hp' j e).elim hne (fun q => by omega)
  refine ⟨h.doc.turns hu fun e => (h.pF _ e).2.1 rfl, h.tr.turns hu fun j hj => (h.Fb j hj).2.2.2.2.2.2, h.its.turns hu fun j hj e => (h.pF _ e).2.2.1 hj, h.rows.turns rowedI hu fun j hj => (h.Fb j hj).2.2.2.2.2.2, h.way.turns hu fun j hj e => (h.pF _ e).2.2.2.1 hj, h.turns.turns hu fun j hj e => (h.pF _ e).2.2.2.2 hj, ?_, hdb, h.xF, h.wF, h.tF, ?_, ?_⟩
  · have e2 : g.want.length + 1 = (g.want ++ [e]).length := by simp
    rw [wantC_snoc, ← e2]; exact hp
  · exact fun j hj => (hp' j hj).elim (h.pF j) fun q => ⟨by omega, by omega, fun e => by have := h.its.idlt _ e; omega, fun e => by have := h.way.idlt _ e; omega, fun e => by have := h.turns.idlt _ e; omega⟩
  · intro j hj
    obtain ⟨q1, q2, q3, q4, q5, q6, q7⟩ := h.Fb j hj
    exact ⟨q1, by omega, q3, q4, q5, q6, hlp j q2 q7⟩
end
end Go.Cl
