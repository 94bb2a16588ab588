/-
  Pages: what a tree of pages is, in plain words: what a node hands down, a leaf, the walk.
-/
import Derived.Test.YtokfoagohblkoaaPgA
import Derived.Test.YtokfoagohblkoaaCosO
namespace Go.Cl
def kRes : List UInt8 := [82, 101, 115, 111, 117, 114, 99, 101, 115]
def kMed : List UInt8 := [77, 101, 100, 105, 97, 66, 111, 120]
def kCrop : List UInt8 := [67, 114, 111, 112, 66, 111, 120]
def kRot : List UInt8 := [82, 111, 116, 97, 116, 101]
def kType : List UInt8 := [84, 121, 112, 101]
def kKids : List UInt8 := [75, 105, 100, 115]
def kRoot : List UInt8 := [82, 111, 111, 116]
def kPages : List UInt8 := [80, 97, 103, 101, 115]
def kPage : List UInt8 := [80, 97, 103, 101]
def heir1 (o above : O) (k : List UInt8) : O := if (getO o k).kind = 0 then above else setO above [(k, getO o k)]
def heirO (o above : O) : O := [kRes, kMed, kCrop, kRot].foldl (heir1 o) above
structure PgO where
  media : List Int
  crop : List Int
  rotate : Int
  res : O
  num : Int
  obj : O
def turnD (D : List (Int × O)) (o : O) : Int × Bool :=
  if o.kind = 0 then (0, true) else (((resD D o).num.tmod 360 + 360).tmod 360, decide ((resD D o).kind = 2 ∧ (resD D o).num.tmod 90 = 0))
def leafD (D : List (Int × O)) (n : Int) (o mine : O) : Option PgO :=
  match boxD D (getO mine kMed), (if (getO mine kCrop).kind = 0 then boxD D (getO mine kMed) else boxD D (getO mine kCrop)) with
  | some m, some c =>
    if (turnD D (getO mine kRot)).2 = true ∧ ((getO mine kRes).kind = 0 ∨ (resD D (getO mine kRes)).kind = 7) then some ⟨m, c, (turnD D (getO mine kRot)).1, resD D (getO mine kRes), n, o⟩ else none
  | _, _ => none
structure WkO where
  seen : List Int
  pages : List PgO
def isN (o : O) (b : List UInt8) : Bool := decide (o.kind = 5) && decide (o.bytes = b)
def kidsD (step : Int → O → WkO → WkO × Nat) (mine : O) : List O → WkO → WkO × Nat
  | [], w => (w, 0)
  | x :: r, w =>
    if x.kind ≠ 9 then (w, 4)
    else if (step x.num mine w).2 ≠ 0 then step x.num mine w
    else kidsD step mine r (step x.num mine w).1
def nodeD (D : List (Int × O)) : Nat → Int → O → WkO → WkO × Nat
  | 0, _, _, w => (w, 7)
  | k + 1, n, above, w =>
    if n ∈ w.seen then (w, 9)
    else if w.seen.length + 1 > 4000 then (⟨n :: w.seen, w.pages⟩, 7)
    else if (findD D n).2 = false ∨ (findD D n).1.kind ≠ 7 then (⟨n :: w.seen, w.pages⟩, 4)
    else if isN (getO (findD D n).1 kType) kPage = true then
      match leafD D n (findD D n).1 (heirO (findD D n).1 above) with
      | none => (⟨n :: w.seen, w.pages⟩, 4)
      | some p => if w.pages.length ≥ 1000 then (⟨n :: w.seen, w.pages⟩, 7) else (⟨n :: w.seen, w.pages ++ [p]⟩, 0)
    else if isN (getO (findD D n).1 kType) kPages = false ∨ (pathD D (findD D n).1 [kKids]).kind ≠ 6 then (⟨n :: w.seen, w.pages⟩, 4)
    else kidsD (nodeD D k) (heirO (findD D n).1 above) (pathD D (findD D n).1 [kKids]).items ⟨n :: w.seen, w.pages⟩
def pagesD (D : List (Int × O)) (trailer : O) : List PgO × Nat :=
  if (resD D (getO trailer kRoot)).kind ≠ 7 ∨ (getO (resD D (getO trailer kRoot)) kPages).kind ≠ 9 then ([], 8)
  else if (nodeD D 4001 (getO (resD D (getO trailer kRoot)) kPages).num (.mk 7 0 [] [] []) ⟨[], []⟩).2 ≠ 0 then ([], (nodeD D 4001 (getO (resD D (getO trailer kRoot)) kPages).num (.mk 7 0 [] [] []) ⟨[], []⟩).2)
  else ((nodeD D 4001 (getO (resD D (getO trailer kRoot)) kPages).num (.mk 7 0 [] [] []) ⟨[], []⟩).1.pages, 0)
end Go.Cl
set_option linter.unusedSimpArgs false
set_option linter.unusedVariables false
set_option maxRecDepth 100000
namespace Go.Proofs.Ytokfoagohblkoaa
open Go.Cl Go.Lib
theorem is_any (F : Nat → Prop) (s : ASt) (cs : List Value) (o : O) (ho : OIs F s cs o) (q : List UInt8) :
    Runs Try.prog libN 46 [.agg cs.toArray, .string ⟨q.toArray⟩] s fun v s' => v = .bool (isN o q) ∧ Stay s.next s s' := by
  have hol := ho.len
  refine Runs.enter 15 Try.func46 rfl rfl rfl rfl ?_
  intro f hn hf
  have h0 : f.get 0 = .agg cs.toArray := hf 0
  have h1 : f.get 1 = .string ⟨q.toArray⟩ := hf 1
  clear hf
  simp (config := { maxSteps := 1000000, implicitDefEqProofs := false }) (disch := omega) only [allW, allR, oneOf, evalAll, partsA, optA, Nat.reduceLT, Nat.reduceLeDiff, Nat.reduceEqDiff, Nat.reduceAdd, ↓reduceIte, hn, h0, h1]
  refine wstep_newPtr ?_
  intro s1 ht hst hnx
  have ht : Thing s1 s.next cs := ht
  cases o with
  | mk k n b l d =>
  obtain ⟨bv, lv, dv, lc, dc, rfl, hb, -⟩ := ho.parts
  have hb1 := hb.keeps hst
  have lk : loadA Try.prog s1 3 (.pointer (some ⟨s.next, 0, some 6⟩)) = some (.int .i64 k) := ht.load agInt (off := 0) (c := 6) rfl (by simp)
  have lb : loadA Try.prog s1 27 (.pointer (some ⟨s.next, 2, some 6⟩)) = some bv := ht.load agSl (off := 2) (c := 6) rfl (by simp)
  have hd6 : ∀ k n bv lv dv, [Value.int .i64 k, .int .i64 n, bv, lv, dv].length + 1 = 6 := fun _ _ _ _ _ => rfl
  have hc := hb1.str (P := Try.prog) Try.underlying27 Try.underlying9 Try.underlying5
  have e : isN (.mk k n b l d) q = (decide (k = 5) && decide (b = q)) := rfl
  rw [e]
  by_cases c5 : k = 5
  · simp (config := { maxSteps := 1000000, implicitDefEqProofs := false }) (disch := omega) only [allW, allR, wfn_ret, wfn_normal, oneOf, evalAll, partsA, optA, Nat.reduceLT, Nat.reduceLeDiff, Nat.reduceEqDiff, Nat.reduceAdd, ↓reduceIte, undef, hn, h0, h1, of0, of2, lk, lb, c5, decide_true, Bool.true_and, hd6, hc, str_eql, Try.results46]
    exact hst
  · simp (config := { maxSteps := 1000000, implicitDefEqProofs := false }) (disch := omega) only [allW, allR, wfn_ret, wfn_normal, oneOf, evalAll, partsA, optA, Nat.reduceLT, Nat.reduceLeDiff, Nat.reduceEqDiff, Nat.reduceAdd, ↓reduceIte, undef, hn, h0, h1, hd6, of0, of2, lk, lb, eq_false c5, decide_false, Bool.false_and, Try.results46]
    exact hst
end Go.Proofs.Ytokfoagohblkoaa
namespace Go.Cl
structure Calm (F : Nat → Prop) (s s' : ASt) : Prop where
  next : s.next ≤ s'.next
  get : ∀ j, j < s.next → F j → s'.heap.get j = s.heap.get j
theorem Calm.refl (F : Nat → Prop) (s : ASt) : Calm F s s := ⟨Nat.le_refl _, fun _ _ _ => rfl⟩
theorem Calm.trans {F : Nat → Prop} {s s' s'' : ASt} (h : Calm F s s') (k : Calm F s' s'') : Calm F s s'' :=
  ⟨Nat.le_trans h.next k.next, fun j hj hF => (k.get j (Nat.lt_of_lt_of_le hj h.next) hF).trans (h.get j hj hF)⟩
theorem Calm.ofStay {F : Nat → Prop} {s s' : ASt} (h : Stay s.next s s') : Calm F s s' := ⟨h.next, fun j hj _ => h.get j hj⟩
theorem Calm.ofPut {F : Nat → Prop} {s s' : ASt} {i : Nat} (h1 : s'.next = s.next) (h2 : ∀ q, q ≠ i → s'.heap.get q = s.heap.get q) (hi : ¬ F i) : Calm F s s' :=
  ⟨by omega, fun j _ hF => h2 j (fun e => hi (e ▸ hF))⟩
theorem Calm.ofTurns {F : Nat → Prop} {s s' : ASt} {u : Value} (h : Turns u s s') (hi : ∀ j, F j → idOf u ≠ some j) : Calm F s s' :=
  ⟨h.next, fun j hj hF => h.get j hj (hi j hF)⟩
theorem Calm.mono {F G : Nat → Prop} {s s' : ASt} (h : Calm F s s') (k : ∀ j, j < s.next → G j → F j) : Calm G s s' := ⟨h.next, fun j hj hG => h.get j hj (k j hj hG)⟩
theorem Sees.calm {F : Nat → Prop} {s s' : ASt} {z : Nat} {v : Value} {n : Nat} {l : List Value} (h : Sees s z v n l) (hf : Foot F v) (k : Calm F s s') : Sees s' z v n l := by
  cases h with
  | nil => exact .nil
  | bare i off => exact .bare i off
  | of i off n c b l hi hb hz hl hc hlen hoff ht =>
    have hF : F i := hf (by omega)
    refine .of i off n c b l (Nat.lt_of_lt_of_le hi k.next) ?_ hz hl hc hlen hoff ht
    simp only [ASt.blk?, k.get i hi hF]; exact hb
theorem OIs.calm {F : Nat → Prop} {s s' : ASt} {cs : List Value} {o : O} (h : OIs F s cs o) (k : Calm F s s') : OIs F s' cs o := by
  induction h with
  | mk kind n b l d bv lv dv lc dc hb hl hd fb fl fd _ hK _ hM hL hD => exact .mk kind n b l d bv lv dv lc dc (hb.calm fb k) (hl.calm fl k) (hd.calm fd k) fb fl fd hL hK hD hM
theorem DocIs.calm {F : Nat → Prop} {s s' : ASt} {mv iv : Value} {tc ic : List Value} {D : Dc} (h : DocIs F s mv tc iv ic D) (k : Calm F s s') : DocIs F s' mv tc iv ic D :=
  ⟨h.mark.calm h.markF k, h.markF, h.trailer.calm k, h.items.calm h.itemsF k, h.itemsF, ⟨h.rows.len, fun i hi => by obtain ⟨r, h1, h2⟩ := h.rows.row i hi; exact ⟨r, h1, h2.calm k⟩⟩⟩
theorem Thing.calm {F : Nat → Prop} {s s' : ASt} {i : Nat} {cs : List Value} (h : Thing s i cs) (k : Calm F s s') (hi : F i) : Thing s' i cs :=
  ⟨Nat.lt_of_lt_of_le h.lt k.next, by
    obtain ⟨low, z, h1, h2⟩ := h.blk
    refine ⟨low, z, ?_, h2⟩
    simp only [ASt.blk?, k.get i h.lt hi]; exact h1⟩
def PgIs (F : Nat → Prop) (s : ASt) (cs : List Value) (p : PgO) : Prop := ∃ rc oc, cs = i64V p.media ++ (i64V p.crop ++ (.int .i64 p.rotate :: (rc ++ (.int .i64 p.num :: oc)))) ∧ p.media.length = 4 ∧ p.crop.length = 4 ∧ OIs F s rc p.res ∧ OIs F s oc p.obj
theorem PgIs.len {F : Nat → Prop} {s : ASt} {cs : List Value} {p : PgO} (h : PgIs F s cs p) : cs.length = 20 := by
  obtain ⟨rc, oc, rfl, h1, h2, h3, h4⟩ := h
  simp [i64V, h1, h2, h3.len, h4.len]
theorem i64V_ok (l : List Int) : (i64V l).all okCell = true := by simp [i64V, okCell]
theorem PgIs.ok {F : Nat → Prop} {s : ASt} {cs : List Value} {p : PgO} (h : PgIs F s cs p) : cs.all okCell = true := by
  obtain ⟨rc, oc, rfl, h1, h2, h3, h4⟩ := h
  simp only [List.all_append, List.all_cons, i64V_ok, h3.ok, h4.ok]; rfl
theorem rowedP : Rowed PgIs := ⟨fun ⟨a, b, h1, h2, h3, h4, h5⟩ k => ⟨a, b, h1, h2, h3, h4.keeps k, h5.keeps k⟩, fun ⟨a, b, h1, h2, h3, h4, h5⟩ k => ⟨a, b, h1, h2, h3, h4.mono k, h5.mono k⟩, fun ⟨a, b, h1, h2, h3, h4, h5⟩ k n => ⟨a, b, h1, h2, h3, h4.turns k n, h5.turns k n⟩, fun ⟨a, b, h1, h2, h3, h4, h5⟩ => ⟨a, b, h1, h2, h3, h4.lows, h5.lows⟩⟩
theorem rows_calm {F : Nat → Prop} {s s' : ASt} {L : List PgO} {lc : List Value} (h : ORows PgIs 20 F s L lc) (k : Calm F s s') : ORows PgIs 20 F s' L lc :=
  ⟨h.len, fun i hi => by obtain ⟨a, b, h1, h2, h3, h4, h5⟩ := h.row i hi; exact ⟨a, b, h1, h2, h3, h4.calm k, h5.calm k⟩⟩
def FreeW (w m : Nat) (lv : Value) (j : Nat) : Prop := j ≠ w ∧ j ≠ m ∧ idOf lv ≠ some j
structure WTo (w m : Nat) (lv lv' : Value) (s s' : ASt) : Prop where
  calm : Calm (FreeW w m lv) s s'
  home : idOf lv' = idOf lv ∨ ∃ i, idOf lv' = some i ∧ s.next ≤ i
theorem WTo.free {w m : Nat} {lv lv' : Value} {s s' : ASt} (h : WTo w m lv lv' s s') {j : Nat} (hj : j < s.next) (hf : FreeW w m lv j) : FreeW w m lv' j := by
  refine ⟨hf.1, hf.2.1, fun e => ?_⟩
  rcases h.home with h1 | ⟨i, h1, h2⟩
  · exact hf.2.2 (by rw [← h1]; exact e)
  · rw [h1] at e; injection e with e; omega
theorem WTo.trans {w m : Nat} {lv lv' lv'' : Value} {s s' s'' : ASt} (h : WTo w m lv lv' s s') (k : WTo w m lv' lv'' s' s'') : WTo w m lv lv'' s s'' := by
  have hn := h.calm.next
  refine ⟨⟨Nat.le_trans hn k.calm.next, fun j hj hF => (k.calm.get j (by omega) (h.free hj hF)).trans (h.calm.get j hj hF)⟩, ?_⟩
  rcases k.home with k1 | ⟨i, k1, k2⟩
  · rcases h.home with h1 | ⟨i, h1, h2⟩
    · exact .inl (k1.trans h1)
    · exact .inr ⟨i, k1.trans h1, h2⟩
  · exact .inr ⟨i, k1, by omega⟩
theorem WTo.refl (w m : Nat) (lv : Value) (s : ASt) : WTo w m lv lv s s := ⟨Calm.refl _ _, .inl rfl⟩
theorem WTo.ofStay {w m : Nat} {lv : Value} {s s' : ASt} (h : Stay s.next s s') : WTo w m lv lv s s' := ⟨Calm.ofStay h, .inl rfl⟩
theorem WTo.ofPut {w m : Nat} {lv : Value} {s s' : ASt} {i : Nat} (h1 : s'.next = s.next) (h2 : ∀ q, q ≠ i → s'.heap.get q = s.heap.get q) (hi : i = w ∨ i = m) : WTo w m lv lv s s' :=
  ⟨Calm.ofPut h1 h2 (fun h => by rcases hi with e | e; exact h.1 e; exact h.2.1 e), .inl rfl⟩
theorem WTo.next {w m : Nat} {lv lv' : Value} {s s' : ASt} (h : WTo w m lv lv' s s') : s.next ≤ s'.next := h.calm.next
theorem OIs.wto {w m : Nat} {lv lv' : Value} {s s' : ASt} {cs : List Value} {o : O} (h : OIs (FreeW w m lv) s cs o) (k : WTo w m lv lv' s s') : OIs (FreeW w m lv') s' cs o :=
  ((h.lows).calm (k.calm.mono fun j _ h => h.1)).mono fun j h => k.free h.2 h.1
theorem DocIs.wto {w m : Nat} {lv lv' : Value} {s s' : ASt} {mv iv : Value} {tc ic : List Value} {D : Dc} (h : DocIs (FreeW w m lv) s mv tc iv ic D) (k : WTo w m lv lv' s s') : DocIs (FreeW w m lv') s' mv tc iv ic D :=
  ((h.lows).calm (k.calm.mono fun j _ h => h.1)).mono fun j h => k.free h.2 h.1
structure SeenJ (z : Value) (S : List Int) (T : List (Int × Value)) : Prop where
  at_ : ∀ n, seekJ n T = if n ∈ S then some z else none
  len : T.length = S.length
theorem SeenJ.nil (z : Value) : SeenJ z [] [] := ⟨fun n => by simp [seekJ], rfl⟩
theorem SeenJ.cons {z : Value} {S : List Int} {T : List (Int × Value)} (h : SeenJ z S T) {n : Int} (hn : n ∉ S) : SeenJ z (n :: S) (putJ n z T) := by
  refine ⟨fun j => ?_, ?_⟩
  · rw [seekJ_put, h.at_]
    by_cases e : j = n
    · simp [e]
    · simp [e]
  · rw [putJ_length, h.at_, if_neg hn]
    simp [h.len]
structure PwIs (X : Value → List Value) (z : Value) (s : ASt) (w : Nat) (D : Dc) (mv : Value) (tc : List Value) (iv : Value) (ic : List Value) (m : Nat) (lv : Value) (W : WkO) : Prop where
  doc : DocIs (FreeW w m lv) s mv tc iv ic D
  thing : Thing s w (X lv)
  met : ∃ T, MapJ s m T ∧ SeenJ z W.seen T
  pages : ∃ lc, Own s 20 lv W.pages.length lc ∧ ORows PgIs 20 (FreeW w m lv) s W.pages lc
  small : ∀ p ∈ W.pages, Small p.res ∧ Small p.obj
  wm : w ≠ m
  lw : idOf lv ≠ some w
  lm : idOf lv ≠ some m
theorem Own.idLt {s : ASt} {z : Nat} {v : Value} {n : Nat} {l : List Value} (h : Own s z v n l) : ∀ i, idOf v = some i → i < s.next := by
  intro i e
  cases h with
  | nil => cases e
  | of j n low l hi hb hl hlen => injection e with e; rw [← e]; exact hi
section
variable {X : Value → List Value} {z : Value} {s s' : ASt} {w : Nat} {D : Dc} {mv : Value} {tc : List Value} {iv : Value} {ic : List Value} {m : Nat} {lv : Value} {W : WkO}
theorem PwIs.keeps (h : PwIs X z s w D mv tc iv ic m lv W) (k : Stay s.next s s') : PwIs X z s' w D mv tc iv ic m lv W := by
  obtain ⟨T, h1, h2⟩ := h.met
  obtain ⟨lc, h3, h4⟩ := h.pages
  exact ⟨h.doc.keeps k, h.thing.keeps k, ⟨T, h1.keeps k, h2⟩, ⟨lc, h3.keeps k, ORows.keeps rowedP h4 k⟩, h.small, h.wm, h.lw, h.lm⟩
theorem PwIs.seen {T' : List (Int × Value)} {S' : List Int} (h : PwIs X z s w D mv tc iv ic m lv W) (h2 : MapJ s' m T') (h3 : SeenJ z S' T') (hn : s'.next = s.next) (ho : ∀ j, j ≠ m → s'.heap.get j = s.heap.get j) : PwIs X z s' w D mv tc iv ic m lv ⟨S', W.pages⟩ := by
  obtain ⟨lc, h4, h5⟩ := h.pages
  have hc : Calm (FreeW w m lv) s s' := Calm.ofPut hn ho (fun h => h.2.1 rfl)
  exact ⟨h.doc.calm hc, h.thing.ofPut hn ho h.wm, ⟨T', h2, h3⟩, ⟨lc, Own.ofPut hn ho h4 h.lm, rows_calm h5 hc⟩, h.small, h.wm, h.lw, h.lm⟩
end
end Go.Cl
set_option linter.unusedSimpArgs false
set_option linter.unusedVariables false
set_option maxRecDepth 100000
namespace Go.Cl
def heirK : List (List UInt8) := [kRes, kMed, kCrop, kRot]
theorem getO_small (q : O) (k : List UInt8) (hq : Small q) : Small (getO q k) := by
  unfold getO
  split
  · cases q with
    | mk kk n b L d =>
      cases hq with
      | mk hb hL hd hK hLs hD =>
        show Small (findE d k)
        unfold findE
        split
        · rename_i e he; exact hD _ (List.mem_of_find?_eq_some he)
        · exact Small.none
  · exact Small.none
theorem setO_one {o : O} {e : List UInt8 × O} {m : Nat} (ho : Small o) (hn : o.ents.length ≤ m) (hm : m + 1 ≤ 100000) (hl : e.1.length ≤ 100000) (he : Small e.2) : Small (setO o [e]) ∧ (setO o [e]).ents.length ≤ m + 1 := by
  cases o with
  | mk k n b L d =>
  cases ho with
  | mk hb hL hd hK hLs hD =>
  have hn : d.length ≤ m := hn
  unfold setO
  split
  · have h3 : (putAll d [e]).length ≤ d.length + 1 := putAll_len d [e]
    have h4 : ∀ x ∈ putAll d [e], x.1.length ≤ 100000 ∧ Small x.2 := fun x hx => by
      rcases putAll_mem [e] d hx with h | h
      · exact ⟨hK x h, hD x h⟩
      · obtain rfl : x = e := by simpa using h
        exact ⟨hl, he⟩
    have h5 : (putAll d [e]).length ≤ 100000 := by omega
    refine ⟨.mk hb hL h5 (fun e he => (h4 e he).1) hLs (fun e he => (h4 e he).2), ?_⟩
    show (putAll d [e]).length ≤ _
    omega
  · exact ⟨.mk hb hL hd hK hLs hD, by show d.length ≤ _; omega⟩
theorem heir1_small {o above : O} {k : List UInt8} {m : Nat} (ho : Small o) (ha : Small above) (hn : above.ents.length ≤ m) (hm : m + 1 ≤ 100000) (hk : k.length ≤ 100000) : Small (heir1 o above k) ∧ (heir1 o above k).ents.length ≤ m + 1 := by
  unfold heir1
  split
  · exact ⟨ha, by omega⟩
  · exact setO_one ha hn hm hk (getO_small o k ho)
theorem heirK_small {o : O} (ho : Small o) : ∀ (K : List (List UInt8)) {above : O} {m : Nat}, Small above → above.ents.length ≤ m → m + K.length ≤ 100000 → (∀ k ∈ K, k.length ≤ 100000) → Small (K.foldl (heir1 o) above) ∧ (K.foldl (heir1 o) above).ents.length ≤ m + K.length
  | [], _, _, ha, hn, _, _ => ⟨ha, hn⟩
  | k :: K, above, m, ha, hn, hm, hK => by
    rw [List.length_cons] at hm
    obtain ⟨h1, h2⟩ := heir1_small ho ha hn (by omega) (hK k (List.mem_cons_self ..))
    obtain ⟨h3, h4⟩ := heirK_small ho K h1 h2 (by omega) (fun x hx => hK x (List.mem_cons_of_mem _ hx))
    exact ⟨h3, by rw [List.length_cons]; exact Nat.le_trans h4 (by omega)⟩
theorem heirK_len : ∀ k ∈ heirK, k.length ≤ 100000 := by decide
theorem heirO_small {o above : O} {m : Nat} (ho : Small o) (ha : Small above) (hn : above.ents.length ≤ m) (hm : m + 4 ≤ 100000) : Small (heirO o above) ∧ (heirO o above).ents.length ≤ m + 4 := heirK_small ho heirK ha hn hm heirK_len
theorem heirK_take {o above : O} {i : Nat} (h : i < heirK.length) : (heirK.take (i + 1)).foldl (heir1 o) above = heir1 o ((heirK.take i).foldl (heir1 o) above) heirK[i] := by
  rw [List.take_add_one, List.getElem?_eq_getElem h, List.foldl_append]; rfl
end Go.Cl
namespace Go.Proofs.Ytokfoagohblkoaa
open Go.Cl Go.Lib
theorem libCP : LibC libN := by constructor <;> rfl
theorem libRP : LibRf libN := by constructor <;> rfl
theorem zStrP : zeroB Try.prog 9 = some (.string ⟨#[]⟩) := by kernel_rfl
theorem buildK4 (s : ASt) : buildSliceA Try.prog s 109 4 [(0, .string ⟨#[82, 101, 115, 111, 117, 114, 99, 101, 115]⟩), (1, .string ⟨#[77, 101, 100, 105, 97, 66, 111, 120]⟩), (2, .string ⟨#[67, 114, 111, 112, 66, 111, 120]⟩), (3, .string ⟨#[82, 111, 116, 97, 116, 101]⟩)] = newSlice s (strs heirK) 4 1 :=
  buildV4 Try.underlying109 szStr zStrP rfl ⟨_, rfl⟩ rfl rfl rfl rfl
theorem valEq_ent {k : List UInt8} {cs : List Value} (hl : cs.length = 5) (h : valEq (.agg cs.toArray) (.agg cs.toArray) = true) : valEq (.agg (.string ⟨k.toArray⟩ :: cs).toArray) (.agg (.string ⟨k.toArray⟩ :: cs).toArray) = true := by
  match cs, hl, h with
  | [a, b, c, d, e], _, this =>
    simp [valEq, valEqL] at this ⊢
    exact ⟨by simp [valEq1], this⟩
set_option maxHeartbeats 8000000 in
theorem heir_any (F H : Nat → Prop) (s : ASt) (cs ca : List Value) (o above : O) (ho : OIs F s cs o) (hso : Small o) (ha : OIs H s ca above) (hsa : Small above) (hlen : above.ents.length ≤ 99000) :
    Runs Try.prog libN 45 [.agg cs.toArray, .agg ca.toArray] s (RObj H s (heirO o above)) := by
  have hol := ho.len
  have hal := ha.len
  have hd6 : noneC.length + 1 = 6 := rfl
  refine Runs.enter 28 Try.func45 rfl rfl rfl rfl ?_
  intro f hn hf
  have h0 : f.get 0 = .agg cs.toArray := hf 0
  have h1 : f.get 1 = .agg ca.toArray := hf 1
  clear hf
  simp (config := { maxSteps := 1000000, implicitDefEqProofs := false }) (disch := omega) only [allW, allR, oneOf, evalAll, partsA, optA, Nat.reduceLT, Nat.reduceLeDiff, Nat.reduceEqDiff, Nat.reduceAdd, ↓reduceIte, hn, h0, h1]
  refine wstep_newPtr ?_
  intro s1 ht1 hst1 hnx1
  have ht1 : Thing s1 s.next cs := ht1
  simp (config := { maxSteps := 1000000, implicitDefEqProofs := false }) (disch := omega) only [allW, allR, oneOf, evalAll, partsA, optA, Nat.reduceLT, Nat.reduceLeDiff, Nat.reduceEqDiff, Nat.reduceAdd, ↓reduceIte, hn, h0, h1, hol]
  refine wstep_newPtr ?_
  intro s2 ht2 hst2 hnx2
  have ht2 : Thing s2 s1.next ca := ht2
  simp (config := { maxSteps := 1000000, implicitDefEqProofs := false }) (disch := omega) only [allW, allR, oneOf, evalAll, partsA, optA, Nat.reduceLT, Nat.reduceLeDiff, Nat.reduceEqDiff, Nat.reduceAdd, ↓reduceIte, hn, h0, h1, hal, zO, plO]
  refine wstep_newPtr ?_
  intro s3 ht3 hst3 hnx3
  have n1 := hst1.next
  have n2 := hst2.next
  have n3 := hst3.next
  simp (config := { maxSteps := 1000000, implicitDefEqProofs := false }) (disch := omega) only [allW, allR, oneOf, evalAll, partsA, optA, Nat.reduceLT, Nat.reduceLeDiff, Nat.reduceEqDiff, Nat.reduceAdd, ↓reduceIte, hn, h0, h1, hd6, buildK4]
  refine wstep_newSlice (by rfl) ?_
  intro b s4 hb hbF hst4
  have n4 := hst4.next
  have hs3 : Stay s.next s s3 := (hst1.trans (hst2.weaken n1)).trans (hst3.weaken (by omega))
  have hs4 : Stay s.next s s4 := hs3.trans (hst4.weaken (by omega))
  have hbs : Sees s4 1 b heirK.length (strs heirK) := hb.sees
  have hl4 : heirK.length = 4 := rfl
  simp (config := { maxSteps := 1000000, implicitDefEqProofs := false }) (disch := omega) only [allW, allR, oneOf, evalAll, partsA, optA, Nat.reduceLT, Nat.reduceLeDiff, Nat.reduceEqDiff, Nat.reduceAdd, ↓reduceIte, hn, h0, h1, hbs.lenA Try.underlying109]
  refine Comes.loopOut (fun z f t => ∃ (i : Nat) (ca' : List Value), z = 4 - i ∧ i ≤ 4 ∧ OIs (fun j => (H j ∧ j < s.next) ∨ s3.next ≤ j) t ca' ((heirK.take i).foldl (heir1 o) above) ∧ Thing t s.next cs ∧ Thing t s1.next ca' ∧ Thing t s2.next noneC ∧ Sees t 1 b heirK.length (strs heirK) ∧ Stay s.next s t ∧ s4.next ≤ t.next ∧ f.n = 28 ∧ f.get 2 = .pointer (some ⟨s.next, 0, some 6⟩) ∧ f.get 3 = .pointer (some ⟨s1.next, 0, some 6⟩) ∧ f.get 4 = .pointer (some ⟨s2.next, 0, some 6⟩) ∧ f.get 8 = b ∧ f.get 9 = .int .i64 4 ∧ f.get 10 = .int .i64 (i : Nat))
    (fun z f t => z = .exit 0 ∧ ∃ ca' : List Value, OIs (fun j => (H j ∧ j < s.next) ∨ s3.next ≤ j) t ca' (heirO o above) ∧ Thing t s1.next ca' ∧ Thing t s2.next noneC ∧ Stay s.next s t ∧ s4.next ≤ t.next ∧ f.n = 28 ∧ f.get 3 = .pointer (some ⟨s1.next, 0, some 6⟩) ∧ f.get 4 = .pointer (some ⟨s2.next, 0, some 6⟩))
    ⟨0, ca, rfl, by omega, (ha.lows.keeps hs4).mono (fun j h => .inl h), ht1.keeps ((hst2.trans (hst3.weaken n2)).trans (hst4.weaken (by omega))), ht2.keeps (hst3.trans (hst4.weaken n3)), ht3.keeps hst4, hbs, hs4, Nat.le_refl _, by simp only [get_put, n_put, ↓reduceIte, Nat.reduceEqDiff, hn], by simp only [get_put, n_put, ↓reduceIte, Nat.reduceEqDiff], by simp only [get_put, n_put, ↓reduceIte, Nat.reduceEqDiff], by simp only [get_put, n_put, ↓reduceIte, Nat.reduceEqDiff], by simp only [get_put, n_put, ↓reduceIte, Nat.reduceEqDiff], by simp only [get_put, n_put, ↓reduceIte, Nat.reduceEqDiff]; rfl, by simp only [get_put, n_put, ↓reduceIte, Nat.reduceEqDiff]; rfl⟩ ?_ ?_
  · clear hn h0 h1 f
    rintro Q hQ z f t ⟨i, ca', rfl, hi, hoa, hto, hta, htn, hbt, hst, hnt, hn, h2, h3, h4, h8, h9, h10⟩
    have hal' := hoa.len
    by_cases hlt : i < 4
    rotate_left
    · obtain rfl : i = 4 := by omega
      have d1 : ¬ ((4 : Nat) : Int) < 4 := by decide
      simp (config := { maxSteps := 1000000, implicitDefEqProofs := false }) (disch := omega) only [allW, allR, oneOf, evalAll, partsA, optA, Nat.reduceLT, Nat.reduceLeDiff, Nat.reduceEqDiff, Nat.reduceAdd, ↓reduceIte, hn, h2, h3, h4, h8, h9, h10, eq_false d1]
      exact hQ _ _ _ ⟨rfl, ca', hoa, hta, htn, hst, hnt, by simp only [get_put, n_put, ↓reduceIte, Nat.reduceEqDiff, hn], by simp only [get_put, n_put, ↓reduceIte, Nat.reduceEqDiff, h3], by simp only [get_put, n_put, ↓reduceIte, Nat.reduceEqDiff, h4]⟩
    have d1 : (i : Int) < 4 := by omega
    have hlt2 : i < heirK.length := hlt
    have hix := hbt.indexAddr (P := Try.prog) (k := .i64) (x := (i : Int)) Try.underlying109 szStr (by omega) (by omega)
    rw [Int.toNat_natCast] at hix
    have hld := hbt.load1 (P := Try.prog) agStr hlt2
    rw [strs_get hlt2] at hld
    obtain ⟨hsA, hlA⟩ := heirK_small (o := o) hso (heirK.take i) hsa hlen (by rw [List.length_take]; omega) (fun k hk => heirK_len k (List.mem_of_mem_take hk))
    have hlA : ((heirK.take i).foldl (heir1 o) above).ents.length ≤ 99004 := Nat.le_trans hlA (by rw [List.length_take]; omega)
    have hstep := heirK_take (o := o) (above := above) hlt2
    have hkl : heirK[i].length ≤ 100000 := heirK_len _ (List.getElem_mem hlt2)
    obtain ⟨K, hK⟩ : ∃ K, K = heirK[i] := ⟨_, rfl⟩
    rw [← hK] at hld hstep hkl
    obtain ⟨A, hA⟩ : ∃ A, A = (heirK.take i).foldl (heir1 o) above := ⟨_, rfl⟩
    rw [← hA] at hoa hsA hlA hstep
    have hot := ho.lows.keeps hst
    have nst := hst.next
    simp (config := { maxSteps := 1000000, implicitDefEqProofs := false }) (disch := omega) only [allW, allR, oneOf, evalAll, partsA, optA, Nat.reduceLT, Nat.reduceLeDiff, Nat.reduceEqDiff, Nat.reduceAdd, ↓reduceIte, hn, h2, h3, h4, h8, h9, h10, eq_true d1, hix, hld, Thing.loadO hto hol]
    refine (get_any rfl rfl rfl rfl rfl _ t cs o hot hso K).mono ?_
    rintro _ t1 ⟨c1, rfl, ho1, k1⟩
    have m1 := k1.next
    have hl1 := ho1.len
    have hs1 := getO_small o K hso
    simp (config := { maxSteps := 1000000, implicitDefEqProofs := false }) (disch := omega) only [allW, allR, oneOf, evalAll, partsA, optA, Nat.reduceLT, Nat.reduceLeDiff, Nat.reduceEqDiff, Nat.reduceAdd, ↓reduceIte, hn, h2, h3, h4, h8, h9, h10, zO, plO]
    refine wstep_newPtr ?_
    intro t2 ht2' hst2' hnx2'
    simp (config := { maxSteps := 1000000, implicitDefEqProofs := false }) (disch := omega) only [allW, allR, oneOf, evalAll, partsA, optA, Nat.reduceLT, Nat.reduceLeDiff, Nat.reduceEqDiff, Nat.reduceAdd, ↓reduceIte, hn, h2, h3, h4, h8, h9, h10, hd6]
    refine wstep_storeAll szO (by decide) ht2' rfl rfl hl1 ho1.ok ?_
    intro t3 ht3' nt3 et3
    have ht3' : Thing t3 t1.next c1 := ht3'
    have k3 : Stay t.next t t3 := (k1.trans (hst2'.weaken m1)).trans ⟨by omega, fun j hj => et3 j (by omega)⟩
    have m3 := k3.next
    have ho3 : OIs (fun j => t.next ≤ j ∧ j < t1.next) t3 c1 (getO o K) := (ho1.lows.keeps hst2').ofPut nt3 et3 (by omega)
    have lk : loadA Try.prog t3 3 (.pointer (some ⟨t1.next, 0, some 6⟩)) = some (.int .i64 (getO o K).kind) := by
      rw [ht3'.load (P := Try.prog) agInt (off := 0) (c := 6) (by rw [hl1]) (by omega), ho3.kindC.1]
    have hoa3 := hoa.keeps k3
    have hta3 := hta.keeps k3
    have hto3 := hto.keeps k3
    have htn3 := htn.keeps k3
    have hbt3 := hbt.keeps k3
    by_cases c0 : (getO o K).kind = 0
    · have e : heir1 o A K = A := by unfold heir1; rw [if_pos c0]
      rw [e] at hstep
      simp (config := { maxSteps := 1000000, implicitDefEqProofs := false }) (disch := omega) only [allW, allR, oneOf, evalAll, partsA, optA, Nat.reduceLT, Nat.reduceLeDiff, Nat.reduceEqDiff, Nat.reduceAdd, ↓reduceIte, undef, hn, h2, h3, h4, h8, h9, h10, of0, lk, c0, not_true, decide_false, wrapI]
      exact wround_next (4 - (i + 1)) (by omega) ⟨i + 1, ca', rfl, by omega, by rw [hstep]; exact hoa3, hto3, hta3, htn3, hbt3, hst.trans (k3.weaken nst), by omega, by simp only [get_put, n_put, ↓reduceIte, Nat.reduceEqDiff, hn], by simp only [get_put, n_put, ↓reduceIte, Nat.reduceEqDiff, h2], by simp only [get_put, n_put, ↓reduceIte, Nat.reduceEqDiff, h3], by simp only [get_put, n_put, ↓reduceIte, Nat.reduceEqDiff, h4], by simp only [get_put, n_put, ↓reduceIte, Nat.reduceEqDiff, h8], by simp only [get_put, n_put, ↓reduceIte, Nat.reduceEqDiff, h9], by simp only [get_put, n_put, ↓reduceIte, Nat.reduceEqDiff]; rfl⟩
    have e : heir1 o A K = setO A [(K, getO o K)] := by unfold heir1; rw [if_neg c0]
    rw [e] at hstep
    simp (config := { maxSteps := 1000000, implicitDefEqProofs := false }) (disch := omega) only [allW, allR, oneOf, evalAll, partsA, optA, Nat.reduceLT, Nat.reduceLeDiff, Nat.reduceEqDiff, Nat.reduceAdd, ↓reduceIte, undef, hn, h2, h3, h4, h8, h9, h10, of0, lk, eq_true c0, decide_true, not_false_iff]
    obtain ⟨B, hB⟩ : ∃ B : Nat → Bool, B = fun j => decide (j < t3.next) := ⟨_, rfl⟩
    have hBl : ∀ j, B j = true → j < t3.next := by
      intro j h
      rw [hB] at h
      exact of_decide_eq_true h
    have hBo : ∀ j, j < t3.next → B j = true := fun j h => by rw [hB]; exact decide_eq_true h
    refine LB.Drawn.looseK B hBl 2 1 (by kernel_rfl) (by kernel_rfl) ?_
    have hsq := Stay.spare t3 1
    have hnq : (spare t3 1).next = t3.next + 1 := spare_next _ _
    have ml1 : ∀ k, LA.lowV B (some (.pointer (some ⟨s1.next, k, some 6⟩))) = true := fun k => LA.lowV_ptr (A := B) (i := s1.next) (hBo _ hta3.lt)
    have ml2 : ∀ k, LA.lowV B (some (.pointer (some ⟨t1.next, k, some 6⟩))) = true := fun k => LA.lowV_ptr (A := B) (i := t1.next) (hBo _ ht3'.lt)
    simp (config := { maxSteps := 1000000, implicitDefEqProofs := false }) (disch := omega) only [allW, allR, allL, allB, Nat.sub_self, Nat.add_one_sub_one, Nat.reduceSub, oneOf, evalAll, partsA, optA, Nat.reduceLT, Nat.reduceLeDiff, Nat.reduceEqDiff, Nat.reduceAdd, ↓reduceIte, hn, h2, h3, h4, h8, h9, h10, Thing.loadO (hta3.keeps hsq) hal', Thing.loadO (ht3'.keeps hsq) hl1, ml1, ml2, hoa3.self, ho3.self, valEq_string]
    refine (pair_any rfl rfl rfl _ (spare t3 1) K c1 _ (ho3.keeps hsq) hs1).mono ?_
    rintro _ t4 ⟨c4, rfl, ho4, k4⟩
    have m4 := k4.next
    have hl4' := ho4.len
    refine ⟨fun _ => LA.Stay.toA hBl (k4.weaken (by omega)), ?_⟩
    have k34 : Stay t3.next t3 t4 := hsq.trans (k4.weaken (by omega))
    obtain ⟨es, hes⟩ : ∃ es, es = Value.string ⟨K.toArray⟩ :: c4 := ⟨_, rfl⟩
    have hel : es.length = 6 := by rw [hes, List.length_cons, hl4']
    have hself : valEq (.agg es.toArray) (.agg es.toArray) = true := by rw [hes]; exact valEq_ent hl4' ho4.self
    rw [← hes]
    simp (config := { maxSteps := 1000000, implicitDefEqProofs := false }) (disch := omega) only [allW, allR, allL, allB, Nat.sub_self, Nat.add_one_sub_one, Nat.reduceSub, oneOf, evalAll, partsA, optA, Nat.reduceLT, Nat.reduceLeDiff, Nat.reduceEqDiff, Nat.reduceAdd, ↓reduceIte, hn, h2, h3, h4, h8, h9, h10, hself, buildAgg1 (cs := es.toArray) Try.underlying29 szE zE plE rfl hel (by decide)]
    refine LB.smake_newSlice (base := t3.next) hel (by omega) (Nat.le_refl _) ?_
    intro bs t5 hbs hid hst5 hnx5 hot5
    have ho5 : OIs (fun j => t3.next + 1 ≤ j) t5 c4 (getO o K) := (ho4.mono (fun j (hj : _ ≤ j) => by omega)).ofPut hnx5 hot5 (by omega)
    have k35 : Stay t3.next t3 t5 := k34.trans hst5
    have hrow : ORows EntIs 6 (fun j => t3.next + 1 ≤ j) t5 [(K, getO o K)] es := by
      refine ORows.snoc (D := []) (lc := []) ORows.nil hel ⟨c4, hes, ho5, Nat.le_trans hkl (by decide)⟩
    have hoa5 := hoa3.keeps k35
    simp (config := { maxSteps := 1000000, implicitDefEqProofs := false }) (disch := omega) only [allW, allR, allL, allB, Nat.sub_self, Nat.add_one_sub_one, Nat.reduceSub, oneOf, evalAll, partsA, optA, Nat.reduceLT, Nat.reduceLeDiff, Nat.reduceEqDiff, Nat.reduceAdd, ↓reduceIte, hn, h2, h3, h4, h8, h9, h10]
    refine (setC libCP _ t5 ca' A hoa5 hsA bs [(K, getO o K)] es hbs.sees (hrow.mono rowedE (fun j (hj : _ ≤ j) => .inr (by omega))) (by simp) (fun e he => by
      obtain rfl : e = (K, getO o K) := by simpa using he
      exact hs1)).mono ?_
    rintro _ t6 ⟨c6, rfl, ho6, k6⟩
    have m5 := k35.next
    have m6 := k6.next
    refine ⟨fun _ => LA.Stay.toA hBl (k6.weaken (by omega)), ?_⟩
    have hl6 := ho6.len
    have k36 : Stay t3.next t3 t6 := k35.trans (k6.weaken (by omega))
    try simp (config := { maxSteps := 1000000, implicitDefEqProofs := false }) (disch := omega) only [allW, allR, allL, allB, Nat.sub_self, Nat.add_one_sub_one, Nat.reduceSub, oneOf, evalAll, partsA, optA, Nat.reduceLT, Nat.reduceLeDiff, Nat.reduceEqDiff, Nat.reduceAdd, ↓reduceIte, hn, h2, h3, h4, h8, h9, h10, ho6.self]
    refine LB.sstep_storeAll szO (by decide) (hta3.keeps k36) hal' rfl (by simpa using hl6) ho6.ok (fun h => absurd rfl h) ?_
    intro t7 ht7' nt7 et7
    have ht7' : Thing t7 s1.next c6 := ht7'
    have k37 : Stay s1.next t3 t7 := (k36.weaken (by omega)).trans ⟨by omega, fun j hj => et7 j (by omega)⟩
    have hbt7 : Sees t7 1 b heirK.length (strs heirK) := Sees.ofPut nt7 et7 (hbt3.keeps k36) (fun e => by have := hbF _ e; omega)
    simp (config := { maxSteps := 1000000, implicitDefEqProofs := false }) (disch := omega) only [allW, allR, allL, allB, Nat.sub_self, Nat.add_one_sub_one, Nat.reduceSub, oneOf, evalAll, partsA, optA, Nat.reduceLT, Nat.reduceLeDiff, Nat.reduceEqDiff, Nat.reduceAdd, ↓reduceIte, allW, allR, oneOf, evalAll, partsA, optA, Nat.reduceLT, Nat.reduceLeDiff, Nat.reduceEqDiff, Nat.reduceAdd, ↓reduceIte, hn, h2, h3, h4, h8, h9, h10, wrapI]
    exact wround_next (4 - (i + 1)) (by omega) ⟨i + 1, c6, rfl, by omega, by rw [hstep]; exact (ho6.ofPut nt7 et7 (by omega)).mono (fun j (hj : _ ≤ j) => .inr (by omega)), (hto3.keeps k36).ofPut nt7 et7 (by omega), ht7', (htn3.keeps k36).ofPut nt7 et7 (by omega), hbt7, (hst.trans (k3.weaken nst)).trans (k37.weaken (by omega)), by have := k37.next; omega, by simp only [get_put, n_put, ↓reduceIte, Nat.reduceEqDiff, hn], by simp only [get_put, n_put, ↓reduceIte, Nat.reduceEqDiff, h2], by simp only [get_put, n_put, ↓reduceIte, Nat.reduceEqDiff, h3], by simp only [get_put, n_put, ↓reduceIte, Nat.reduceEqDiff, h4], by simp only [get_put, n_put, ↓reduceIte, Nat.reduceEqDiff, h8], by simp only [get_put, n_put, ↓reduceIte, Nat.reduceEqDiff, h9], by simp only [get_put, n_put, ↓reduceIte, Nat.reduceEqDiff]; rfl⟩
  clear hn h0 h1 f
  rintro z f t ⟨rfl, ca', hoa, hta, htn, hst, hnt, hn, h3, h4⟩
  have hal' := hoa.len
  simp (config := { maxSteps := 1000000, implicitDefEqProofs := false }) (disch := omega) only [allW, allR, oneOf, evalAll, partsA, optA, Nat.reduceLT, Nat.reduceLeDiff, Nat.reduceEqDiff, Nat.reduceAdd, ↓reduceIte, hn, h3, h4, Thing.loadO hta hal']
  refine wstep_storeAll szO (by decide) htn rfl rfl hal' hoa.ok ?_
  intro t3 ht3' nt3 et3
  simp (config := { maxSteps := 1000000, implicitDefEqProofs := false }) (disch := omega) only [allW, allR, wfn_ret, wfn_normal, oneOf, evalAll, partsA, optA, Nat.reduceLT, Nat.reduceLeDiff, Nat.reduceEqDiff, Nat.reduceAdd, ↓reduceIte, hn, h4, Thing.loadO ht3' hal', resultsA_cell, Try.results45]
  exact ⟨ca', rfl, (hoa.ofPut nt3 et3 (fun h => by rcases h with h | h <;> omega)).mono (fun j hj => hj.elim (fun h => .inl h.1) (fun h => .inr (by omega))), hst.trans ⟨by omega, fun j hj => et3 j (by omega)⟩⟩
end Go.Proofs.Ytokfoagohblkoaa
