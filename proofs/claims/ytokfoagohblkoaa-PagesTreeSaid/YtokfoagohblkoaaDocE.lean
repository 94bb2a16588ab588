import Derived.Test.YtokfoagohblkoaaObjU
import Derived.Test.YtokfoagohblkoaaCosW
import Derived.Test.YtokfoagohblkoaaCosO
import Derived.Test.YtokfoagohblkoaaCosM
import Derived.Test.YtokfoagohblkoaaMapJ
import Derived.Test.YtokfoagohblkoaaPre
set_option linter.unusedSimpArgs false
set_option linter.unusedVariables false
set_option maxRecDepth 100000
namespace Go.Cl
structure Dc where
  minor : Int
  mark : List UInt8
  tail : Int
  trailer : O
  items : List (Int × O)
def ItIs (F : Nat → Prop) (s : ASt) (cs : List Value) (e : Int × O) : Prop := ∃ r, cs = .int .i64 e.1 :: r ∧ OIs F s r e.2
theorem rowedI : Rowed ItIs := ⟨fun ⟨r, h1, h2⟩ k => ⟨r, h1, h2.keeps k⟩, fun ⟨r, h1, h2⟩ k => ⟨r, h1, h2.mono k⟩, fun ⟨r, h1, h2⟩ k n => ⟨r, h1, h2.turns k n⟩, fun ⟨r, h1, h2⟩ => ⟨r, h1, h2.lows⟩⟩
theorem ItIs.len {F : Nat → Prop} {s : ASt} {cs : List Value} {e : Int × O} (h : ItIs F s cs e) : cs.length = 6 := by
  obtain ⟨r, rfl, h⟩ := h; simp [h.len]
theorem ItIs.ok {F : Nat → Prop} {s : ASt} {cs : List Value} {e : Int × O} (h : ItIs F s cs e) : cs.all okCell = true := by
  obtain ⟨r, rfl, h⟩ := h; rw [List.all_cons, h.ok]; rfl
structure DocIs (F : Nat → Prop) (s : ASt) (mv : Value) (tc : List Value) (iv : Value) (ic : List Value) (D : Dc) : Prop where
  mark : Sees s 1 mv D.mark.length (ofBytes D.mark)
  markF : Foot F mv
  trailer : OIs F s tc D.trailer
  items : Sees s 6 iv D.items.length ic
  itemsF : Foot F iv
  rows : ORows ItIs 6 F s D.items ic
def docC (D : Dc) (mv : Value) (tc : List Value) (iv : Value) : List Value := .int .i64 D.minor :: mv :: .int .i64 D.tail :: (tc ++ [iv])
theorem docC_len {F : Nat → Prop} {s : ASt} {mv iv : Value} {tc ic : List Value} {D : Dc} (h : DocIs F s mv tc iv ic D) : (docC D mv tc iv).length = 9 := by
  simp [docC, h.trailer.len]
theorem docC_ok {F : Nat → Prop} {s : ASt} {mv iv : Value} {tc ic : List Value} {D : Dc} (h : DocIs F s mv tc iv ic D) : (docC D mv tc iv).all okCell = true := by
  have h1 := h.mark.okCell
  have h2 := h.trailer.ok
  have h3 := h.items.okCell
  simp only [docC, List.all_cons, List.all_append, List.all_nil, h1, h2, h3]; rfl
theorem DocIs.keeps {F : Nat → Prop} {s s' : ASt} {mv iv : Value} {tc ic : List Value} {D : Dc} (h : DocIs F s mv tc iv ic D) (k : Stay s.next s s') : DocIs F s' mv tc iv ic D :=
  ⟨h.mark.keeps k, h.markF, h.trailer.keeps k, h.items.keeps k, h.itemsF, h.rows.keeps rowedI k⟩
theorem DocIs.mono {F G : Nat → Prop} {s : ASt} {mv iv : Value} {tc ic : List Value} {D : Dc} (h : DocIs F s mv tc iv ic D) (k : ∀ j, F j → G j) : DocIs G s mv tc iv ic D :=
  ⟨h.mark, h.markF.mono k, h.trailer.mono k, h.items, h.itemsF.mono k, h.rows.mono rowedI k⟩
theorem DocIs.turns {F : Nat → Prop} {s s' : ASt} {u mv iv : Value} {tc ic : List Value} {D : Dc} (h : DocIs F s mv tc iv ic D) (k : Turns u s s') (hne : ∀ j, F j → idOf u ≠ some j) : DocIs F s' mv tc iv ic D :=
  ⟨h.mark.turnsF h.markF k hne, h.markF, h.trailer.turns k hne, h.items.turnsF h.itemsF k hne, h.itemsF, h.rows.turns rowedI k hne⟩
theorem DocIs.lows {F : Nat → Prop} {s : ASt} {mv iv : Value} {tc ic : List Value} {D : Dc} (h : DocIs F s mv tc iv ic D) : DocIs (fun j => F j ∧ j < s.next) s mv tc iv ic D :=
  ⟨h.mark, Foot.below h.mark h.markF, h.trailer.lows, h.items, Foot.below h.items h.itemsF, h.rows.below rowedI⟩
def nodesN : Nat → O → Nat
  | 0, _ => 0
  | m + 1, .mk _ _ _ l d => 1 + (l.map (nodesN m)).sum + (d.map fun e => nodesN m e.2).sum
noncomputable def nodesO (o : O) : Nat := nodesN (SizeOf.sizeOf o) o
theorem sum_same {α : Type} {f g : α → Nat} : ∀ {l : List α}, (∀ x ∈ l, f x = g x) → (l.map f).sum = (l.map g).sum
  | [], _ => rfl
  | x :: l, h => by
    rw [List.map_cons, List.map_cons, List.sum_cons, List.sum_cons, h x (List.mem_cons_self ..), sum_same (fun y hy => h y (List.mem_cons_of_mem _ hy))]
theorem nodesN_same : ∀ (m m' : Nat) (o : O), SizeOf.sizeOf o ≤ m → SizeOf.sizeOf o ≤ m' → nodesN m o = nodesN m' o
  | 0, _, o, h, _ => by have := o.size_pos; omega
  | _ + 1, 0, o, _, h => by have := o.size_pos; omega
  | m + 1, m' + 1, .mk k n b l d, h, h' => by
    unfold nodesN
    rw [sum_same (l := l) (fun x hx => nodesN_same m m' x (by have := O.items_lt (k := k) (n := n) (b := b) (d := d) hx; omega) (by have := O.items_lt (k := k) (n := n) (b := b) (d := d) hx; omega)),
      sum_same (l := d) (fun e he => nodesN_same m m' e.2 (by have := O.ents_lt (k := k) (n := n) (b := b) (l := l) he; omega) (by have := O.ents_lt (k := k) (n := n) (b := b) (l := l) he; omega))]
theorem nodesO_mk (k n : Int) (b : List UInt8) (l : List O) (d : List (List UInt8 × O)) : nodesO (.mk k n b l d) = 1 + (l.map nodesO).sum + (d.map fun e => nodesO e.2).sum := by
  unfold nodesO
  obtain ⟨q, hq⟩ : ∃ q, SizeOf.sizeOf (O.mk k n b l d) = q + 1 := ⟨SizeOf.sizeOf (O.mk k n b l d) - 1, by have := (O.mk k n b l d).size_pos; omega⟩
  rw [hq]
  show 1 + (l.map (nodesN q)).sum + (d.map fun e => nodesN q e.2).sum = _
  rw [sum_same (l := l) (fun x hx => nodesN_same q _ x (by have := O.items_lt (k := k) (n := n) (b := b) (d := d) hx; omega) (Nat.le_refl _)),
    sum_same (l := d) (fun e he => nodesN_same q _ e.2 (by have := O.ents_lt (k := k) (n := n) (b := b) (l := l) he; omega) (Nat.le_refl _))]
end Go.Cl
namespace Go.Proofs.Ytokfoagohblkoaa
open Go.Cl Go.Lib
theorem szI : sizeB Try.prog 66 = some 6 := by kernel_rfl
theorem agI : isAggB Try.prog 66 = some true := by kernel_rfl
theorem byI : bytesB Try.prog 66 = some 96 := by kernel_rfl
def noneI : List Value := .int .i64 0 :: noneC
theorem zI : zeroB Try.prog 66 = some (.agg noneI.toArray) := by kernel_rfl
theorem plI : plainV (.agg noneI.toArray) = true := by kernel_rfl
theorem szD : sizeB Try.prog 34 = some 9 := by kernel_rfl
theorem agD : isAggB Try.prog 34 = some true := by kernel_rfl
theorem szIs : sizeB Try.prog 32 = some 1 := by kernel_rfl
theorem agIs : isAggB Try.prog 32 = some false := by kernel_rfl
theorem df3 (i o c : Nat) : fieldAddrA Try.prog 34 (.pointer (some ⟨i, o, some c⟩)) 3 = some (.pointer (some ⟨i, o + 3, some c⟩)) := by
  unfold fieldAddrA; rw [Try.underlying34]; simp [szO]
theorem df4 (i o c : Nat) : fieldAddrA Try.prog 34 (.pointer (some ⟨i, o, some c⟩)) 4 = some (.pointer (some ⟨i, o + 8, some c⟩)) := by
  unfold fieldAddrA; rw [Try.underlying34]; simp [szIs]
theorem if0 (i o c : Nat) : fieldAddrA Try.prog 66 (.pointer (some ⟨i, o, some c⟩)) 0 = some (.pointer (some ⟨i, o + 0, some c⟩)) := by
  unfold fieldAddrA; rw [Try.underlying66]; simp [szInt]
theorem if1 (i o c : Nat) : fieldAddrA Try.prog 66 (.pointer (some ⟨i, o, some c⟩)) 1 = some (.pointer (some ⟨i, o + 1, some c⟩)) := by
  unfold fieldAddrA; rw [Try.underlying66]; simp [szO]
theorem efI {s : ASt} {v : Value} {n : Nat} {l : List Value} (h : Sees s 6 v n l) {k : Nat} (hk : k < n) : fieldAddrA Try.prog 66 (elemPtr 6 v k) 0 = some (plusPtr (elemPtr 6 v k) 0) ∧ fieldAddrA Try.prog 66 (elemPtr 6 v k) 1 = some (plusPtr (elemPtr 6 v k) 1) := by
  obtain ⟨i, off, c, e, _⟩ := h.cells hk
  rw [e]
  refine ⟨?_, ?_⟩ <;> · unfold fieldAddrA; rw [Try.underlying66]; simp [szInt, szO, plusPtr]
end Go.Proofs.Ytokfoagohblkoaa
namespace Go.Cl
structure FitD (D : Dc) : Prop where
  mark : D.mark.length ≤ 140737488351232
  trailer : Fit D.trailer
  len : D.items.length ≤ 140737488351232
  items : ∀ e ∈ D.items, Fit e.2
structure SmallD (D : Dc) : Prop where
  mark : D.mark.length ≤ 100
  len : D.items.length ≤ 70
  trailer : Small D.trailer
  items : ∀ e ∈ D.items, Small e.2
  nodes : nodesO D.trailer + (D.items.map fun e => nodesO e.2).sum ≤ 20000
structure FairD (D : Dc) : Prop where
  small : SmallD D
  kind : D.trailer.kind = 7
  may : MayO 28 D.trailer
  mays : ∀ e ∈ D.items, MayO 28 e.2
  nums : ∀ e ∈ D.items, 1 ≤ e.1 ∧ e.1 ≤ 8388607
  rises : D.items.Pairwise fun a b => a.1 < b.1
theorem five {tc : List Value} (h : tc.length = 5) : ∃ a b c d e, tc = [a, b, c, d, e] := by
  match tc, h with
  | [a, b, c, d, e], _ => exact ⟨a, b, c, d, e, rfl⟩
end Go.Cl
namespace Go.Proofs.Ytokfoagohblkoaa
open Go.Cl Go.Lib
section
variable {t : ASt} {i : Nat} {D : Dc} {mv iv : Value} {tc : List Value}
theorem db_len (hl : tc.length = 5) : (docC D mv tc iv).length = 9 := by simp [docC, hl]
theorem db_trailer (h : Thing t i (docC D mv tc iv)) (hl : tc.length = 5) : loadA Try.prog t 31 (.pointer (some ⟨i, 3, some 10⟩)) = some (.agg tc.toArray) := by
  have := Thing.loadMid (P := Try.prog) agO szO h (off := 3) (c := 10) (by rw [db_len hl]) (by rw [db_len hl]; omega)
  rw [this]
  obtain ⟨a, b, c, d, e, rfl⟩ := five hl
  rfl
theorem db_items (h : Thing t i (docC D mv tc iv)) (hl : tc.length = 5) : loadA Try.prog t 32 (.pointer (some ⟨i, 8, some 10⟩)) = some iv := by
  have := h.load (P := Try.prog) agIs (off := 8) (c := 10) (by rw [db_len hl]) (by rw [db_len hl]; omega)
  rw [this]
  obtain ⟨a, b, c, d, e, rfl⟩ := five hl
  rfl
theorem db_all (h : Thing t i (docC D mv tc iv)) (hl : tc.length = 5) : loadA Try.prog t 34 (.pointer (some ⟨i, 0, some 10⟩)) = some (.agg (docC D mv tc iv).toArray) := Thing.loadAll agD (by rw [db_len hl]; exact szD) h (by rw [db_len hl])
end
theorem itemB {F : Nat → Prop} {s : ASt} {ic : List Value} {i : Nat} {e : Int × O} (h : ItIs F s ((ic.drop (i * 6)).take 6) e) : ic.getD (i * 6) undef = .int .i64 e.1 ∧ (ic.drop (i * 6 + 1)).take 5 = ((ic.drop (i * 6)).take 6).drop 1 ∧ OIs F s ((ic.drop (i * 6 + 1)).take 5) e.2 ∧ ∃ bv, ic.getD (i * 6 + 3) undef = bv ∧ Sees s 1 bv e.2.bytes.length (ofBytes e.2.bytes) ∧ Foot F bv := by
  obtain ⟨r, hr, ho⟩ := h
  obtain ⟨h1, h2⟩ := chunk6 hr
  refine ⟨h1, by rw [h2, hr]; rfl, by rw [h2]; exact ho, _, rfl, ?_⟩
  have h3 : ((ic.drop (i * 6 + 1)).take 5)[2]? = ic[i * 6 + 3]? := by
    rw [List.getElem?_take_of_lt (by omega), List.getElem?_drop]
  rw [h2] at h3
  obtain ⟨k, o⟩ := e
  cases o with
  | mk kd n b l d =>
    obtain ⟨bv, lv, dv, lc, dc, rfl, hb, hl, hd, fb, -⟩ := ho.parts
    have h4 : ic.getD (i * 6 + 3) undef = bv := by
      rw [List.getD_eq_getElem?_getD, ← h3]; rfl
    rw [h4]
    exact ⟨hb, fb⟩
end Go.Proofs.Ytokfoagohblkoaa
namespace Go.Proofs.Ytokfoagohblkoaa
open Go.Cl Go.Lib
end Go.Proofs.Ytokfoagohblkoaa
namespace Go.Cl
def findD (l : List (Int × O)) (n : Int) : O × Bool := match l.find? (fun e => e.1 == n) with
  | some e => (e.2, true)
  | none => (O.none, false)
theorem findD_at {d : List (Int × O)} {k : Int} {i : Nat} (hi : i < d.length) (h1 : d[i].1 = k) (h2 : ∀ j (h : j < i), (d[j]'(Nat.lt_trans h hi)).1 ≠ k) : findD d k = (d[i].2, true) := by
  unfold findD
  have : d.find? (fun y => y.1 == k) = some d[i] := by
    rw [List.find?_eq_some_iff_getElem]
    refine ⟨by simpa using h1, i, hi, rfl, fun j hj => ?_⟩
    have := h2 j hj
    simpa using this
  rw [this]
theorem findD_none {d : List (Int × O)} {k : Int} (h2 : ∀ j (h : j < d.length), d[j].1 ≠ k) : findD d k = (O.none, false) := by
  unfold findD
  have : d.find? (fun y => y.1 == k) = none := by
    rw [List.find?_eq_none]
    intro y hy
    obtain ⟨j, hj, rfl⟩ := List.mem_iff_getElem.1 hy
    simpa using h2 j hj
  rw [this]
def onI (D : List (Int × O)) (n : Int) (i : Nat) : Bool := match D[i]? with
  | some y => decide (y.1 = n)
  | none => false
theorem onI_at {D : List (Int × O)} {n : Int} {i : Nat} (h : i < D.length) : onI D n i = decide (D[i].1 = n) := by
  unfold onI; rw [List.getElem?_eq_getElem h]
end Go.Cl
namespace Go.Proofs.Ytokfoagohblkoaa
open Go.Cl Go.Lib
def BoolsI (s : ASt) (t : Bool) (v : Value) (s' : ASt) : Prop := v = .bool t ∧ Stay s.next s s'
def FoundIt (s : ASt) (p : Nat → Bool) (n : Nat) (v : Value) (s' : ASt) : Prop := (∃ r, v = .int .i64 r ∧ FirstAt p n r) ∧ Stay s.next s s'
set_option maxHeartbeats 4000000 in
theorem indexI {lib : Prims} (hl : lib.at 59 = none) (g : Nat) (bs : List Value) (s : ASt) (x : Value) (n : Nat) (lx : List Value) (hx : Sees s 6 x n lx) (hnn : n ≤ 140737488351232) (p : Nat → Bool)
    (h : ∀ i, i < n → ∀ s' : ASt, Stay s.next s s' → Runs Try.prog lib g (.agg ((lx.drop (i * 6)).take 6).toArray :: bs) s' (BoolsI s' (p i))) :
    Runs Try.prog lib 59 [x, .func (.func g) #[] bs.toArray] s (FoundIt s p n) := by
  refine Runs.enter 19 Try.func59 rfl hl rfl rfl ?_
  intro f hn hf
  have h0 : f.get 0 = x := hf 0
  have h1 : f.get 1 = .func (.func g) #[] bs.toArray := hf 1
  clear hf
  simp (config := { maxSteps := 1000000, implicitDefEqProofs := false }) (disch := omega) only [allW, allR, oneOf, evalAll, partsA, optA, Nat.reduceLT, Nat.reduceLeDiff, Nat.reduceEqDiff, Nat.reduceAdd, ↓reduceIte, hn, h0, h1, hx.lenA Try.underlying32]
  refine Comes.loopOut (fun z f s' => ∃ i : Nat, z = n - i ∧ i ≤ n ∧ (∀ j, j < i → p j = false) ∧ Stay s.next s s' ∧ f.n = 19 ∧ f.get 0 = x ∧ f.get 1 = .func (.func g) #[] bs.toArray ∧ f.get 7 = .int .i64 (n : Nat) ∧ f.get 8 = .int .i64 (i : Nat))
    (fun z f s' => (z = .ret ∧ Stay s.next s s' ∧ f.n = 19 ∧ ∃ r : Nat, f.get 4 = .int .i64 (r : Nat) ∧ r < n ∧ p r = true ∧ ∀ j, j < r → p j = false) ∨ (z = .exit 0 ∧ (∀ j, j < n → p j = false) ∧ Stay s.next s s' ∧ f.n = 19))
    ⟨0, rfl, by omega, fun j h => by omega, Stay.refl _ _, by simp only [get_put, n_put, ↓reduceIte, Nat.reduceEqDiff, hn], by simp only [get_put, n_put, ↓reduceIte, Nat.reduceEqDiff, h0], by simp only [get_put, n_put, ↓reduceIte, Nat.reduceEqDiff, h1], by simp only [get_put, n_put, ↓reduceIte, Nat.reduceEqDiff], by simp only [get_put, n_put, ↓reduceIte, Nat.reduceEqDiff]; rfl⟩ ?_ ?_
  · clear hn h0 h1 f
    rintro Q hQ z f s2 ⟨i, rfl, hi, hP, hst, hn, h0, h1, h7, h8⟩
    by_cases hlt : i < n
    rotate_left
    · obtain rfl : i = n := by omega
      have d1 : ¬ ((i : Nat) : Int) < ((i : Nat) : Int) := by omega
      simp (config := { maxSteps := 1000000, implicitDefEqProofs := false }) (disch := omega) only [allW, allR, oneOf, evalAll, partsA, optA, Nat.reduceLT, Nat.reduceLeDiff, Nat.reduceEqDiff, Nat.reduceAdd, ↓reduceIte, hn, h0, h1, h7, h8, eq_false d1]
      exact hQ _ _ _ (.inr ⟨rfl, hP, hst, by simp only [get_put, n_put, ↓reduceIte, Nat.reduceEqDiff, hn]⟩)
    have d1 : ((i : Nat) : Int) < ((n : Nat) : Int) := by omega
    have hx2 := hx.keeps hst
    have hix := hx2.indexAddr (P := Try.prog) (k := .i64) (x := (i : Int)) Try.underlying32 szI (by omega) (by omega)
    rw [Int.toNat_natCast] at hix
    have hld := hx2.loadAgg (P := Try.prog) agI szI hlt
    have hrun := h i hlt s2 hst
    generalize (lx.drop (i * 6)).take 6 = xs at hld hrun
    simp (config := { maxSteps := 1000000, implicitDefEqProofs := false }) (disch := omega) only [allW, allR, oneOf, evalAll, partsA, optA, Nat.reduceLT, Nat.reduceLeDiff, Nat.reduceEqDiff, Nat.reduceAdd, ↓reduceIte, hn, h0, h1, h7, h8, eq_true d1, hx2.self, hix, hld]
    refine hrun.mono ?_
    rintro _ s3 ⟨rfl, hs3⟩
    have hss := hst.trans (hs3.weaken hst.next)
    cases hp : p i with
    | true =>
      simp (config := { maxSteps := 1000000, implicitDefEqProofs := false }) (disch := omega) only [allW, allR, oneOf, evalAll, partsA, optA, Nat.reduceLT, Nat.reduceLeDiff, Nat.reduceEqDiff, Nat.reduceAdd, ↓reduceIte, hn, h0, h1, h7, h8]
      exact hQ _ _ _ (.inl ⟨rfl, hss, by simp only [get_put, n_put, ↓reduceIte, Nat.reduceEqDiff, hn], i, by simp only [get_put, n_put, ↓reduceIte, Nat.reduceEqDiff], hlt, hp, hP⟩)
    | false =>
      simp (config := { maxSteps := 1000000, implicitDefEqProofs := false }) (disch := omega) only [allW, allR, oneOf, evalAll, partsA, optA, Nat.reduceLT, Nat.reduceLeDiff, Nat.reduceEqDiff, Nat.reduceAdd, ↓reduceIte, hn, h0, h1, h7, h8, wrapI]
      exact wround_next (n - (i + 1)) (by omega) ⟨i + 1, rfl, by omega, upto_next hP hp, hss, by simp only [get_put, n_put, ↓reduceIte, Nat.reduceEqDiff, hn], by simp only [get_put, n_put, ↓reduceIte, Nat.reduceEqDiff, h0], by simp only [get_put, n_put, ↓reduceIte, Nat.reduceEqDiff, h1], by simp only [get_put, n_put, ↓reduceIte, Nat.reduceEqDiff, h7], by simp only [get_put, n_put, ↓reduceIte, Nat.reduceEqDiff]; rfl⟩
  rintro z f' s6 (⟨rfl, hs, hn', r, h4, hr1, hr2, hr3⟩ | ⟨rfl, hP, hs, hn'⟩)
  · simp (config := { maxSteps := 1000000, implicitDefEqProofs := false }) (disch := omega) only [allW, allR, wfn_ret, wfn_normal, oneOf, evalAll, partsA, optA, Nat.reduceLT, Nat.reduceLeDiff, Nat.reduceEqDiff, Nat.reduceAdd, ↓reduceIte, hn', h4, Try.results59]
    exact ⟨⟨_, rfl, .inr ⟨r, hr1, rfl, hr2, hr3⟩⟩, hs⟩
  simp (config := { maxSteps := 1000000, implicitDefEqProofs := false }) (disch := omega) only [allW, allR, wfn_ret, wfn_normal, oneOf, evalAll, partsA, optA, Nat.reduceLT, Nat.reduceLeDiff, Nat.reduceEqDiff, Nat.reduceAdd, ↓reduceIte, hn', Try.results59]
  exact ⟨⟨_, rfl, .inl ⟨rfl, hP⟩⟩, hs⟩
theorem cloI {lib : Prims} (hl : lib.at 60 = none) (F : Nat → Prop) (s : ASt) (cs : List Value) (e : Int × O) (he : ItIs F s cs e) (j : Nat) (n : Int) (hj : Thing s j [.int .i64 n]) :
    Runs Try.prog lib 60 [.agg cs.toArray, .pointer (some ⟨j, 0, some 2⟩)] s (BoolsI s (decide (e.1 = n))) := by
  have hcl := he.len
  obtain ⟨r, rfl, hr⟩ := he
  refine Runs.enter 8 Try.func60 rfl hl rfl rfl ?_
  intro f hn hf
  have h0 : f.get 0 = .agg (.int .i64 e.1 :: r).toArray := hf 0
  have h1 : f.get 1 = .pointer (some ⟨j, 0, some 2⟩) := hf 1
  clear hf
  simp (config := { maxSteps := 1000000, implicitDefEqProofs := false }) (disch := omega) only [allW, allR, oneOf, evalAll, partsA, optA, Nat.reduceLT, Nat.reduceLeDiff, Nat.reduceEqDiff, Nat.reduceAdd, ↓reduceIte, hn, h0, h1]
  refine wstep_newPtr ?_
  intro s1 ht1 hst1 hnx1
  have hj1 := hj.keeps hst1
  have q1 := hr.len
  have l1 : loadA Try.prog s1 3 (.pointer (some ⟨s.next, 0, some 7⟩)) = some (.int .i64 e.1) := ht1.load agInt (off := 0) (c := 7) (by simp [q1]) (by simp)
  have l2 : loadA Try.prog s1 3 (.pointer (some ⟨j, 0, some 2⟩)) = some (.int .i64 n) := hj1.load agInt (off := 0) (c := 2) rfl (by simp)
  simp (config := { maxSteps := 1000000, implicitDefEqProofs := false }) (disch := omega) only [allW, allR, wfn_ret, wfn_normal, oneOf, evalAll, partsA, optA, Nat.reduceLT, Nat.reduceLeDiff, Nat.reduceEqDiff, Nat.reduceAdd, ↓reduceIte, hn, h0, h1, hcl, List.length_cons, q1, if0, l1, l2, Try.results60]
  exact ⟨rfl, hst1⟩
def FindR (s : ASt) (x : O × Bool) (v : Value) (s' : ASt) : Prop := ∃ cs, v = .tuple #[.agg cs.toArray, .bool x.2] ∧ OIs (fun j => s.next ≤ j) s' cs x.1 ∧ Stay s.next s s'
set_option maxHeartbeats 4000000 in
theorem find_any {lib : Prims} (hl : lib.at 40 = none) (hli : lib.at 59 = none) (hlc : lib.at 60 = none) (hcp : lib.at 42 = none) (hcl : lib.at 61 = none) (F : Nat → Prop) (s : ASt) (D : Dc) (mv : Value) (tc : List Value) (iv : Value) (ic : List Value) (hD : DocIs F s mv tc iv ic D) (hs : SmallD D) (n : Int) :
    Runs Try.prog lib 40 [.agg (docC D mv tc iv).toArray, .int .i64 n] s (FindR s (findD D.items n)) := by
  have htl := hD.trailer.len
  have dl := db_len (D := D) (mv := mv) (iv := iv) htl
  have hlen := hs.len
  refine Runs.enter 21 Try.func40 rfl hl rfl rfl ?_
  intro f hn hf
  have h0 : f.get 0 = .agg (docC D mv tc iv).toArray := hf 0
  have h1 : f.get 1 = .int .i64 n := hf 1
  clear hf
  simp (config := { maxSteps := 1000000, implicitDefEqProofs := false }) (disch := omega) only [allW, allR, oneOf, evalAll, partsA, optA, Nat.reduceLT, Nat.reduceLeDiff, Nat.reduceEqDiff, Nat.reduceAdd, ↓reduceIte, hn, h0, h1]
  refine wstep_newPtr ?_
  intro s1 ht1 hst1 hnx1
  have ht1 : Thing s1 s.next (docC D mv tc iv) := ht1
  simp (config := { maxSteps := 1000000, implicitDefEqProofs := false }) (disch := omega) only [allW, allR, oneOf, evalAll, partsA, optA, Nat.reduceLT, Nat.reduceLeDiff, Nat.reduceEqDiff, Nat.reduceAdd, ↓reduceIte, hn, h0, h1, dl]
  refine wstep_newPtr ?_
  intro s2 ht2 hst2 hnx2
  have ht2 : Thing s2 s1.next [.int .i64 n] := ht2
  simp (config := { maxSteps := 1000000, implicitDefEqProofs := false }) (disch := omega) only [allW, allR, oneOf, evalAll, partsA, optA, Nat.reduceLT, Nat.reduceLeDiff, Nat.reduceEqDiff, Nat.reduceAdd, ↓reduceIte, hn, h0, h1, zO, plO]
  refine wstep_newPtr ?_
  intro s3 ht3 hst3 hnx3
  have n1 := hst1.next
  have n2 := hst2.next
  have n3 := hst3.next
  have hs2 : Stay s.next s s2 := hst1.trans (hst2.weaken n1)
  have hs3 : Stay s.next s s3 := hs2.trans (hst3.weaken (by omega))
  have ht13 := ht1.keeps (hst2.trans (hst3.weaken n2))
  have ht23 := ht2.keeps hst3
  have hI3 := hD.items.keeps hs3
  have hd6 : noneC.length + 1 = 6 := rfl
  have hd2 : (Value.int IntKind.i64 n).cells.toList.length + 1 = 2 := rfl
  simp (config := { maxSteps := 1000000, implicitDefEqProofs := false }) (disch := omega) only [allW, allR, oneOf, evalAll, partsA, optA, Nat.reduceLT, Nat.reduceLeDiff, Nat.reduceEqDiff, Nat.reduceAdd, ↓reduceIte, hn, h0, h1, hd6, hd2, df4, db_items ht13 htl, aop_makeFunc, hI3.self]
  refine (indexI hli 60 [.pointer (some ⟨s1.next, 0, some 2⟩)] s3 iv D.items.length ic hI3 (by omega) (onI D.items n) (fun i hi s' hs' => ?_)).mono ?_
  · rw [onI_at hi]
    exact cloI hlc F s' _ _ (rowedI.keeps (hD.rows.row i hi) (hs3.trans (hs'.weaken hs3.next))) s1.next n (ht23.keeps hs')
  rintro _ s4 ⟨⟨r, rfl, hr⟩, hs4⟩
  have hs04 : Stay s.next s s4 := hs3.trans (hs4.weaken hs3.next)
  have ht34 := ht3.keeps hs4
  have hs34n := hs4.next
  rcases hr with ⟨rfl, hall⟩ | ⟨k, hk, rfl, hk1, hk0⟩
  · have e : findD D.items n = (O.none, false) := findD_none (fun j h => by
      have := hall j h
      rw [onI_at h] at this
      exact of_decide_eq_false this)
    have d1 : (-1 : Int) < 0 := by omega
    simp (config := { maxSteps := 1000000, implicitDefEqProofs := false }) (disch := omega) only [allW, allR, oneOf, evalAll, partsA, optA, Nat.reduceLT, Nat.reduceLeDiff, Nat.reduceEqDiff, Nat.reduceAdd, ↓reduceIte, hn, h0, h1, eq_true d1, bO0]
    refine wstep_storeAll szO (by decide) ht34 rfl rfl rfl rfl ?_
    intro s5 ht5 hnx5 hot5
    simp (config := { maxSteps := 1000000, implicitDefEqProofs := false }) (disch := omega) only [allW, allR, wfn_ret, wfn_normal, oneOf, evalAll, partsA, optA, Nat.reduceLT, Nat.reduceLeDiff, Nat.reduceEqDiff, Nat.reduceAdd, ↓reduceIte, hn, Thing.loadO ht5 rfl, resultsA_cell, Try.results40]
    rw [e]
    exact ⟨noneC, rfl, OIs.none _ _, hs04.trans ⟨by omega, fun j hj => hot5 j (by omega)⟩⟩
  · have e : findD D.items n = (D.items[k].2, true) := findD_at hk (by rw [onI_at hk] at hk1; exact of_decide_eq_true hk1) (fun j h => by
      have := hk0 j h
      rw [onI_at (Nat.lt_trans h hk)] at this
      exact of_decide_eq_false this)
    have d1 : ¬ ((k : Nat) : Int) < 0 := by omega
    have hI4 := hD.items.keeps hs04
    have hix := hI4.indexAddr (P := Try.prog) (k := .i64) (x := (k : Int)) Try.underlying32 szI (by omega) (by omega)
    rw [Int.toNat_natCast] at hix
    obtain ⟨q0, q1⟩ := efI hI4 hk
    obtain ⟨b1, b2, b3, -⟩ := itemB (hD.rows.row k hk)
    have hlv := hI4.loadPart (P := Try.prog) agO szO hk (j := 1) (by omega)
    have ht14 := ht13.keeps hs4
    simp (config := { maxSteps := 1000000, implicitDefEqProofs := false }) (disch := omega) only [allW, allR, oneOf, evalAll, partsA, optA, Nat.reduceLT, Nat.reduceLeDiff, Nat.reduceEqDiff, Nat.reduceAdd, ↓reduceIte, hn, h0, h1, eq_false d1, df4, db_items ht14 htl, hix, q1, hlv]
    refine (copyO hcp hcl _ D.items[k].2 (Nat.le_refl _) F s4 _ (b3.keeps hs04) (hs.items _ (List.getElem_mem hk))).mono ?_
    intro v s5 h5
    obtain ⟨cs', rfl, ho5, hst5⟩ := h5.is
    have hcl' := ho5.len
    have n5 := hst5.next
    simp (config := { maxSteps := 1000000, implicitDefEqProofs := false }) (disch := omega) only [allW, allR, oneOf, evalAll, partsA, optA, Nat.reduceLT, Nat.reduceLeDiff, Nat.reduceEqDiff, Nat.reduceAdd, ↓reduceIte, hn, h0, h1]
    refine wstep_storeAll szO (by decide) (ht34.keeps hst5) rfl rfl hcl' ho5.ok ?_
    intro s6 ht6 hnx6 hot6
    simp (config := { maxSteps := 1000000, implicitDefEqProofs := false }) (disch := omega) only [allW, allR, wfn_ret, wfn_normal, oneOf, evalAll, partsA, optA, Nat.reduceLT, Nat.reduceLeDiff, Nat.reduceEqDiff, Nat.reduceAdd, ↓reduceIte, hn, Thing.loadO ht6 hcl', resultsA_cell, Try.results40]
    rw [e]
    exact ⟨cs', rfl, (ho5.ofPut hnx6 hot6 (by omega)).mono (fun j hj => by have hj : _ ≤ j := hj; omega), (hs04.trans (hst5.weaken hs04.next)).trans ⟨by omega, fun j hj => hot6 j (by omega)⟩⟩
end Go.Proofs.Ytokfoagohblkoaa
namespace Go.Cl
theorem intsV_getD {M : List Int} {k : Nat} (h : k < M.length) : (intsV M).getD k undef = .int .i64 M[k] := by
  simp [intsV, List.getD, List.getElem?_eq_getElem h]
def TurnedTo (M M' : List Int) (i : Nat) : Prop := M'.length = M.length ∧ ∀ k, k < M.length → M'[k]? = if k < i ∨ M.length - i ≤ k then M[M.length - 1 - k]? else M[k]?
theorem TurnedTo.start (M : List Int) : TurnedTo M M 0 := by
  refine ⟨rfl, fun k hk => ?_⟩
  rw [if_neg (by omega)]
theorem TurnedTo.step {M M' : List Int} {i j : Nat} (h : TurnedTo M M' i) (hj : j + 1 + i = M.length) (hij : i < j) (h1 : i < M'.length) (h2 : j < M'.length) : TurnedTo M ((M'.set i M'[j]).set j M'[i]) (i + 1) := by
  obtain ⟨hl, h⟩ := h
  refine ⟨by simp [hl], fun k hk => ?_⟩
  rw [List.getElem?_set, List.getElem?_set]
  have hi' := h i (by omega)
  have hj' := h j (by omega)
  rw [if_neg (by omega), List.getElem?_eq_getElem h1] at hi'
  rw [if_neg (by omega), List.getElem?_eq_getElem h2] at hj'
  by_cases ejk : j = k
  · subst ejk
    rw [if_pos rfl, if_pos (by simp; omega), if_pos (by omega), hi', show M.length - 1 - j = i by omega]
  · rw [if_neg ejk]
    by_cases eik : i = k
    · subst eik
      rw [if_pos rfl, if_pos (by omega), if_pos (by omega), hj', show M.length - 1 - i = j by omega]
    · rw [if_neg eik, h k hk]
      by_cases c : k < i ∨ M.length - i ≤ k
      · rw [if_pos c, if_pos (by omega)]
      · rw [if_neg c, if_neg (by omega)]
theorem TurnedTo.done {M M' : List Int} {i : Nat} (h : TurnedTo M M' i) (hi : M.length ≤ i + 1 + i) : M' = M.reverse := by
  obtain ⟨hl, h⟩ := h
  refine List.ext_getElem? fun k => ?_
  by_cases hk : k < M.length
  · rw [List.getElem?_reverse hk, h k hk]
    split
    · rfl
    · rw [show M.length - 1 - k = k by omega]
  · rw [List.getElem?_eq_none (by omega), List.getElem?_eq_none (by simp; omega)]
theorem Turns.refl (v : Value) (s : ASt) : Turns v s s := ⟨Nat.le_refl _, fun _ _ _ => rfl⟩
theorem Turns.comp {v : Value} {s s' s'' : ASt} (h : Turns v s s') (k : Turns v s' s'') : Turns v s s'' := ⟨Nat.le_trans h.next k.next, fun i hi hn => (k.get i (Nat.lt_of_lt_of_le hi h.next) hn).trans (h.get i hi hn)⟩
end Go.Cl
namespace Go.Proofs.Ytokfoagohblkoaa
open Go.Cl Go.Lib
end Go.Proofs.Ytokfoagohblkoaa
