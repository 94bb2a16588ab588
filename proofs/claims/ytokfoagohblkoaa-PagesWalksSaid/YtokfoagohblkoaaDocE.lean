import Derived.Test.YtokfoagohblkoaaObjU
import Derived.Test.YtokfoagohblkoaaCosW
import Derived.Test.YtokfoagohblkoaaCosO
import Derived.Test.YtokfoagohblkoaaCosM
import Derived.Test.YtokfoagohblkoaaMapJ
import Derived.Test.YtokfoagohblkoaaPre
set_option linter.unusedSimpArgs false
set_option linter.unusedVariables false
set_option maxRecDepth 100000
namespace Go.Cl
structure Dc where
 minor : Int
 mark : List UInt8
 tail : Int
 trailer : O
 items : List (Int × O)
def ItIs (F : Nat -> Prop) (s : ASt) (cs : List Value) (e : Int × O) : Prop := ∃ r, cs = .int .i64 e.1 :: r ∧ OIs F s r e.2
theorem jL : jd ItIs := ⟨fun ⟨r, h1, h2⟩ k => ⟨r, h1, h2.keeps k⟩, fun ⟨r, h1, h2⟩ k => ⟨r, h1, h2.mono k⟩, fun ⟨r, h1, h2⟩ k n => ⟨r, h1, h2.turns k n⟩, fun ⟨r, h1, h2⟩ => ⟨r, h1, h2.lows⟩⟩
theorem ItIs.len {F : Nat -> Prop} {s : ASt} {cs : List Value} {e : Int × O} (h : ItIs F s cs e) : cs.length = 6 := by
 obtain ⟨r, rfl, h⟩ := h; simp [h.len]
theorem ItIs.ok {F : Nat -> Prop} {s : ASt} {cs : List Value} {e : Int × O} (h : ItIs F s cs e) : cs.all okCell = true := by
 obtain ⟨r, rfl, h⟩ := h; rw [List.all_cons, h.ok]; rfl
structure ye (F : Nat -> Prop) (s : ASt) (mv : Value) (tc : List Value) (iv : Value) (ic : List Value) (D : Dc) : Prop where
 mark : Sees s 1 mv D.mark.length (zF D.mark)
 markF : Foot F mv
 trailer : OIs F s tc D.trailer
 items : Sees s 6 iv D.items.length ic
 itemsF : Foot F iv
 rows : zt ItIs 6 F s D.items ic
def docC (D : Dc) (mv : Value) (tc : List Value) (iv : Value) : List Value := .int .i64 D.minor :: mv :: .int .i64 D.tail :: (tc ++ [iv])
theorem aaj {F : Nat -> Prop} {s : ASt} {mv iv : Value} {tc ic : List Value} {D : Dc} (h : ye F s mv tc iv ic D) : (docC D mv tc iv).length = 9 := by
 simp [docC, h.trailer.len]
theorem abb {F : Nat -> Prop} {s : ASt} {mv iv : Value} {tc ic : List Value} {D : Dc} (h : ye F s mv tc iv ic D) : (docC D mv tc iv).all okCell = true := by
 have h1 := h.mark.okCell
 have h2 := h.trailer.ok
 have h3 := h.items.okCell
 simp only [docC, List.all_cons, List.all_append, List.all_nil, h1, h2, h3]; rfl
theorem ye.keeps {F : Nat -> Prop} {s s' : ASt} {mv iv : Value} {tc ic : List Value} {D : Dc} (h : ye F s mv tc iv ic D) (k : Stay s.next s s') : ye F s' mv tc iv ic D :=
 ⟨h.mark.keeps k, h.markF, h.trailer.keeps k, h.items.keeps k, h.itemsF, h.rows.keeps jL k⟩
theorem ye.mono {F G : Nat -> Prop} {s : ASt} {mv iv : Value} {tc ic : List Value} {D : Dc} (h : ye F s mv tc iv ic D) (k : ∀ j, F j -> G j) : ye G s mv tc iv ic D :=
 ⟨h.mark, h.markF.mono k, h.trailer.mono k, h.items, h.itemsF.mono k, h.rows.mono jL k⟩
theorem ye.turns {F : Nat -> Prop} {s s' : ASt} {u mv iv : Value} {tc ic : List Value} {D : Dc} (h : ye F s mv tc iv ic D) (k : zA u s s') (hne : ∀ j, F j -> idOf u ≠ some j) : ye F s' mv tc iv ic D :=
 ⟨h.mark.turnsF h.markF k hne, h.markF, h.trailer.turns k hne, h.items.turnsF h.itemsF k hne, h.itemsF, h.rows.turns jL k hne⟩
theorem ye.lows {F : Nat -> Prop} {s : ASt} {mv iv : Value} {tc ic : List Value} {D : Dc} (h : ye F s mv tc iv ic D) : ye (fun j => F j ∧ j < s.next) s mv tc iv ic D :=
 ⟨h.mark, Foot.below h.mark h.markF, h.trailer.lows, h.items, Foot.below h.items h.itemsF, h.rows.below jL⟩
def qN : Nat -> O -> Nat
 | 0, _ => 0
 | m + 1, .mk _ _ _ l d => 1 + (l.map (qN m)).sum + (d.map fun e => qN m e.2).sum
noncomputable def yH (o : O) : Nat := qN (SizeOf.sizeOf o) o
theorem jM {α : Type} {f g : α -> Nat} : ∀ {l : List α}, (∀ x ∈ l, f x = g x) -> (l.map f).sum = (l.map g).sum
 | [], _ => rfl
 | x :: l, h => by
  rw [List.map_cons, List.map_cons, List.sum_cons, List.sum_cons, h x (List.mem_cons_self ..), jM (fun y hy => h y (List.mem_cons_of_mem _ hy))]
theorem qB : ∀ (m m' : Nat) (o : O), SizeOf.sizeOf o ≤ m -> SizeOf.sizeOf o ≤ m' -> qN m o = qN m' o
 | 0, _, o, h, _ => by have := o.size_pos; omega
 | _ + 1, 0, o, _, h => by have := o.size_pos; omega
 | m + 1, m' + 1, .mk k n b l d, h, h' => by
  unfold qN
  rw [jM (l := l) (fun x hx => qB m m' x (by have := O.items_lt (k := k) (n := n) (b := b) (d := d) hx; omega) (by have := O.items_lt (k := k) (n := n) (b := b) (d := d) hx; omega)),
   jM (l := d) (fun e he => qB m m' e.2 (by have := O.ents_lt (k := k) (n := n) (b := b) (l := l) he; omega) (by have := O.ents_lt (k := k) (n := n) (b := b) (l := l) he; omega))]
theorem Jq (k n : Int) (b : List UInt8) (l : List O) (d : List (List UInt8 × O)) : yH (.mk k n b l d) = 1 + (l.map yH).sum + (d.map fun e => yH e.2).sum := by
 unfold yH
 obtain ⟨q, hq⟩ : ∃ q, SizeOf.sizeOf (O.mk k n b l d) = q + 1 := ⟨SizeOf.sizeOf (O.mk k n b l d) - 1, by have := (O.mk k n b l d).size_pos; omega⟩
 rw [hq]
 show 1 + (l.map (qN q)).sum + (d.map fun e => qN q e.2).sum = _
 rw [jM (l := l) (fun x hx => qB q _ x (by have := O.items_lt (k := k) (n := n) (b := b) (d := d) hx; omega) (Nat.le_refl _)),
  jM (l := d) (fun e he => qB q _ e.2 (by have := O.ents_lt (k := k) (n := n) (b := b) (l := l) he; omega) (Nat.le_refl _))]
theorem ZG {α : Type} {f : α -> Nat} {l : List α} {i : Nat} (h : i < l.length) : ((l.take (i + 1)).map f).sum = ((l.take i).map f).sum + f l[i] := by
 rw [List.take_add_one, List.getElem?_eq_getElem h, List.map_append, List.sum_append]; simp
end Go.Cl
namespace Go.Proofs.Ytokfoagohblkoaa
open Go.Cl Go.Lib
theorem szI : zB Try.prog 66 = some 6 := by kernel_rfl
theorem agI : yc Try.prog 66 = some true := by kernel_rfl
def noneI : List Value := .int .i64 0 :: zG
theorem zI : yj Try.prog 66 = some (.agg noneI.toArray) := by kernel_rfl
theorem plI : yn (.agg noneI.toArray) = true := by kernel_rfl
theorem szD : zB Try.prog 34 = some 9 := by kernel_rfl
theorem agD : yc Try.prog 34 = some true := by kernel_rfl
theorem szIs : zB Try.prog 32 = some 1 := by kernel_rfl
theorem agIs : yc Try.prog 32 = some false := by kernel_rfl
theorem df1 (i o c : Nat) : zk Try.prog 34 (.pointer (some ⟨i, o, some c⟩)) 1 = some (.pointer (some ⟨i, o + 1, some c⟩)) := by
 unfold zk; rw [Try.underlying34]; simp [szSl]
theorem df3 (i o c : Nat) : zk Try.prog 34 (.pointer (some ⟨i, o, some c⟩)) 3 = some (.pointer (some ⟨i, o + 3, some c⟩)) := by
 unfold zk; rw [Try.underlying34]; simp [szO]
theorem df4 (i o c : Nat) : zk Try.prog 34 (.pointer (some ⟨i, o, some c⟩)) 4 = some (.pointer (some ⟨i, o + 8, some c⟩)) := by
 unfold zk; rw [Try.underlying34]; simp [szIs]
theorem if0 (i o c : Nat) : zk Try.prog 66 (.pointer (some ⟨i, o, some c⟩)) 0 = some (.pointer (some ⟨i, o + 0, some c⟩)) := by
 unfold zk; rw [Try.underlying66]; simp [yP]
theorem efI {s : ASt} {v : Value} {n : Nat} {l : List Value} (h : Sees s 6 v n l) {k : Nat} (hk : k < n) : zk Try.prog 66 (zL 6 v k) 0 = some (yL (zL 6 v k) 0) ∧ zk Try.prog 66 (zL 6 v k) 1 = some (yL (zL 6 v k) 1) := by
 obtain ⟨i, off, c, e, _⟩ := h.cells hk
 rw [e]
 refine ⟨?_, ?_⟩ <;> · unfold zk; rw [Try.underlying66]; simp [yP, szO, yL]
theorem sf0 (i o c : Nat) : zk Try.prog 107 (.pointer (some ⟨i, o, some c⟩)) 0 = some (.pointer (some ⟨i, o + 0, some c⟩)) := by
 unfold zk; rw [Try.underlying107]; simp [yP]
theorem sf1 (i o c : Nat) : zk Try.prog 107 (.pointer (some ⟨i, o, some c⟩)) 1 = some (.pointer (some ⟨i, o + 1, some c⟩)) := by
 unfold zk; rw [Try.underlying107]; simp [yP]
def Room2 (s : ASt) (p : Nat) (n : Nat) (o : O) (v : Value) (s' : ASt) : Prop := ∃ t : Bool, v = .bool t ∧ zA (.pointer (some ⟨p, 0, none⟩)) s s' ∧ (∃ x y : Int, zd s' p [.int .i64 x, .int .i64 y]) ∧ (t = true -> zu o ∧ n + yH o ≤ 20000 ∧ ∃ m : Nat, m ≤ 200000 ∧ zd s' p [.int .i64 ((n + yH o : Nat) : Int), .int .i64 (m : Int)])
set_option maxHeartbeats 8000000 in
theorem Jr {lib : zm} (hl0 : lib.at 50 = none) : ∀ (N : Nat) (o : O), SizeOf.sizeOf o ≤ N -> ∀ (F : Nat -> Prop) (s : ASt) (cs : List Value) (depth : Int) (p n m : Nat), OIs F s cs o -> (∀ j, F j -> j ≠ p) -> Fit o -> -1 ≤ depth -> depth ≤ 1000 -> n ≤ 20000 -> m ≤ 400000 -> zd s p [.int .i64 (n : Int), .int .i64 (m : Int)] ->
  Runs Try.prog lib 50 [.pointer (some ⟨p, 0, some 3⟩), .agg cs.toArray, .int .i64 depth] s (Room2 s p n o) := by
 intro N
 induction N with
 | zero => intro o h; have := o.size_pos; omega
 | succ N ih =>
 intro o hN F s cs depth p n m ho hFp hfit hd0 hd1 hn0 hm0 hp
 cases o with
 | mk kind num b l d =>
 obtain ⟨bv, lv, dv, lc, dc, rfl, hb, hL, hD, fb, fl, fd, rl, rd⟩ := ho.parts
 cases hfit with
 | mk hfb hfl hfd hfK hfL hfD =>
 refine Runs.enter 119 Try.func50 rfl hl0 rfl rfl ?_
 intro f hn hf
 have h0 : f.get 0 = .pointer (some ⟨p, 0, some 3⟩) := hf 0
 have h1 : f.get 1 = .agg #[.int .i64 kind, .int .i64 num, bv, lv, dv] := hf 1
 have h2 : f.get 2 = .int .i64 depth := hf 2
 clear hf
 have hpl := hp.lt
 simp -implicitDefEqProofs (disch := omega) only [allW, Nat.reduceLT, ↓reduceIte, hn, h1]
 refine ze ?_
 intro s1 ht1 hst1 hnx1
 have hp1 := hp.keeps hst1
 have x0 : zg Try.prog s1 3 (.pointer (some ⟨p, 0, some 3⟩)) = some (.int .i64 (n : Int)) := hp1.load zT (off := 0) (c := 3) rfl (by simp)
 simp -implicitDefEqProofs (disch := omega) only [allW, Nat.reduceLT, Nat.reduceEqDiff, Nat.reduceAdd, ↓reduceIte, hn, h0, List.length_cons, List.length_nil, sf0, x0, zR]
 refine wF yP (by decide) hp1 (off := 0) (c := 3) rfl (vs := [.int .i64 ((n : Int) + 1)]) rfl rfl (by simp) rfl ?_
 intro s2 hp2 hnx2 hot2
 have hp2 : zd s2 p [.int .i64 ((n : Int) + 1), .int .i64 (m : Int)] := hp2
 have hu2 : zA (.pointer (some ⟨p, 0, none⟩)) s s2 := ⟨by have := hst1.next; omega, fun j hj hne => by
  rw [hot2 j (fun e => hne (by rw [e]; rfl)), hst1.get j hj]⟩
 have ht2 : zd s2 s.next [.int .i64 kind, .int .i64 num, bv, lv, dv] := ht1.ofPut hnx2 hot2 (by omega)
 simp -implicitDefEqProofs (disch := omega) only [allW]
 obtain ⟨A, hA⟩ : ∃ A : Nat -> Bool, A = fun j => decide (j < s2.next) := ⟨_, rfl⟩
 have hAl : ∀ j, A j = true -> j < s2.next := by
  intro j h
  rw [hA] at h
  exact of_decide_eq_true h
 have hAo : ∀ j, j < s2.next -> A j = true := fun j h => by rw [hA]; exact decide_eq_true h
 refine LB.Drawn.looseK A hAl 0 0 (by kernel_rfl) (by kernel_rfl) ?_
 have hsp := Stay.spare s2 0
 have hnT : (spare s2 0).next = s2.next + 0 := zH _ _
 have hlp : ∀ k, LA.lowV A (some (.pointer (some ⟨p, k, some 3⟩))) = true := fun k => LA.lowV_ptr (A := A) (i := p) (hAo _ (by omega))
 have hlb : ∀ k, LA.lowV A (some (.pointer (some ⟨s.next, k, some 6⟩))) = true := fun k => LA.lowV_ptr (A := A) (i := s.next) (hAo _ (by omega))
 have y1 : zg Try.prog (spare s2 0) 3 (.pointer (some ⟨p, 1, some 3⟩)) = some (.int .i64 (m : Int)) := (hp2.keeps hsp).load zT (off := 1) (c := 3) rfl (by simp)
 have y2 : zg Try.prog (spare s2 0) 27 (.pointer (some ⟨s.next, 2, some 6⟩)) = some bv := (ht2.keeps hsp).load agSl (off := 2) (c := 6) rfl (by simp)
 have hFn : ∀ j, F j -> idOf (.pointer (some ⟨p, 0, none⟩)) ≠ some j := fun j hj e => by
  have e : some p = some j := e
  injection e with e; exact hFp j hj e.symm
 have hb2 := (hb.turnsF fb hu2 hFn).keeps hsp
 simp -implicitDefEqProofs (disch := omega) only [allW, allL, allB, zc, Nat.reduceLT, Nat.reduceEqDiff, ↓reduceIte, hn, h0, sf1, of2, hlp, hlb, y1, y2, hb2.self, LA.lowL_sees hb2, hb2.lenA Try.underlying27, zR]
 refine LB.sstep_storeN yP (by decide) (hp2.keeps hsp) (off := 1) (c := 3) rfl (v := .int .i64 ((m : Int) + b.length)) (vs := [.int .i64 ((m : Int) + b.length)]) rfl rfl (by simp) rfl (fun h => absurd rfl h) ?_
 intro s3 hp3 hnx3 hot3
 have hp3 : zd s3 p [.int .i64 ((n : Int) + 1), .int .i64 ((m : Int) + b.length)] := hp3
 have hu3 : zA (.pointer (some ⟨p, 0, none⟩)) s s3 := hu2.trans ⟨by omega, fun j hj hne => by
  rw [hot3 j (fun e => hne (by rw [e]; rfl)), hsp.get j hj]⟩
 have ht3 : zd s3 s.next [.int .i64 kind, .int .i64 num, bv, lv, dv] := (ht2.keeps hsp).ofPut hnx3 hot3 (by omega)
 have hno : ∀ (f : AFr) (t : ASt), zA (.pointer (some ⟨p, 0, none⟩)) s t -> (∃ x y : Int, zd t p [.int .i64 x, .int .i64 y]) -> f.n = 119 -> f.get 6 = .bool false -> wfn Try.prog Try.f50.results.toList (Room2 s p n (.mk kind num b l d)) .ret f t := by
  intro f t hs hx hn h6
  simp -implicitDefEqProofs (disch := omega) only [allW, zj, zh, Nat.reduceLT, ↓reduceIte, hn, h6, Try.results50]
  exact ⟨false, rfl, hs, hx, fun h => by cases h⟩
 have hb3 := hb.turnsF fb hu3 hFn
 have hL3 := hL.turnsF fl hu3 hFn
 have hD3 := hD.turnsF fd hu3 hFn
 have z2 : zg Try.prog s3 27 (.pointer (some ⟨s.next, 2, some 6⟩)) = some bv := ht3.load agSl (off := 2) (c := 6) rfl (by simp)
 have z3 : zg Try.prog s3 28 (.pointer (some ⟨s.next, 3, some 6⟩)) = some lv := ht3.load agLs (off := 3) (c := 6) rfl (by simp)
 have z4 : zg Try.prog s3 29 (.pointer (some ⟨s.next, 4, some 6⟩)) = some dv := ht3.load agDs (off := 4) (c := 6) rfl (by simp)
 have w0 : zg Try.prog s3 3 (.pointer (some ⟨p, 0, some 3⟩)) = some (.int .i64 ((n : Int) + 1)) := hp3.load zT (off := 0) (c := 3) rfl (by simp)
 have w1 : zg Try.prog s3 3 (.pointer (some ⟨p, 1, some 3⟩)) = some (.int .i64 ((m : Int) + b.length)) := hp3.load zT (off := 1) (c := 3) rfl (by simp)
 by_cases c1 : depth < 0
 ·simp -implicitDefEqProofs (disch := omega) only [allW, allR, allB, Nat.reduceSub, Nat.reduceLT, Nat.reduceEqDiff, ↓reduceIte, allW, allR, Nat.reduceLT, Nat.reduceEqDiff, ↓reduceIte, undef, hn, h2, eq_true c1]
  exact hno _ _ hu3 ⟨_, _, hp3⟩ (by simp only [zf, hn]) (by simp only [za, ↓reduceIte])
 by_cases c2 : ((l.length : Nat) : Int) + ((d.length : Nat) : Int) > 80
 ·simp -implicitDefEqProofs (disch := omega) only [allW, allR, allB, Nat.reduceSub, zc, Nat.reduceLT, Nat.reduceEqDiff, ↓reduceIte, allW, allR, zc, Nat.reduceLT, Nat.reduceEqDiff, ↓reduceIte, undef, hn, h2, eq_false c1, of3, of4, z3, z4, hL3.lenA Try.underlying28, hD3.lenA Try.underlying29, zR, eq_true c2]
  exact hno _ _ hu3 ⟨_, _, hp3⟩ (by simp only [zf, hn]) (by simp only [za, ↓reduceIte])
 by_cases c3 : ((b.length : Nat) : Int) > 4000
 ·simp -implicitDefEqProofs (disch := omega) only [allW, allR, allB, Nat.reduceSub, zc, Nat.reduceLT, Nat.reduceEqDiff, ↓reduceIte, allW, allR, zc, Nat.reduceLT, Nat.reduceEqDiff, ↓reduceIte, undef, hn, h2, eq_false c1, of2, of3, of4, z2, z3, z4, hb3.lenA Try.underlying27, hL3.lenA Try.underlying28, hD3.lenA Try.underlying29, zR, eq_false c2, eq_true c3]
  exact hno _ _ hu3 ⟨_, _, hp3⟩ (by simp only [zf, hn]) (by simp only [za, ↓reduceIte])
 by_cases c4 : (n : Int) + 1 > 20000
 ·simp -implicitDefEqProofs (disch := omega) only [allW, allR, allB, Nat.reduceSub, zc, Nat.reduceLT, Nat.reduceEqDiff, ↓reduceIte, allW, allR, zc, Nat.reduceLT, Nat.reduceEqDiff, ↓reduceIte, undef, hn, h0, h2, eq_false c1, of2, of3, of4, z2, z3, z4, hb3.lenA Try.underlying27, hL3.lenA Try.underlying28, hD3.lenA Try.underlying29, zR, eq_false c2, eq_false c3, sf0, w0, eq_true c4]
  exact hno _ _ hu3 ⟨_, _, hp3⟩ (by simp only [zf, hn]) (by simp only [za, ↓reduceIte])
 by_cases c5 : (m : Int) + b.length > 200000
 ·simp -implicitDefEqProofs (disch := omega) only [allW, allR, allB, Nat.reduceSub, zc, Nat.reduceLT, Nat.reduceEqDiff, ↓reduceIte, allW, allR, zc, Nat.reduceLT, Nat.reduceEqDiff, ↓reduceIte, undef, hn, h0, h2, eq_false c1, of2, of3, of4, z2, z3, z4, hb3.lenA Try.underlying27, hL3.lenA Try.underlying28, hD3.lenA Try.underlying29, zR, eq_false c2, eq_false c3, sf0, sf1, w0, w1, eq_false c4, eq_true c5]
  exact hno _ _ hu3 ⟨_, _, hp3⟩ (by simp only [zf, hn]) (by simp only [za, ↓reduceIte])
 simp -implicitDefEqProofs (disch := omega) only [allW, allR, allB, Nat.reduceSub, zc, Nat.reduceLT, Nat.reduceEqDiff, ↓reduceIte, allW, allR, zc, Nat.reduceLT, Nat.reduceEqDiff, ↓reduceIte, undef, hn, h0, h2, eq_false c1, of2, of3, of4, z2, z3, z4, hb3.lenA Try.underlying27, hL3.lenA Try.underlying28, hD3.lenA Try.underlying29, zR, eq_false c2, eq_false c3, sf0, sf1, w0, w1, eq_false c4, eq_false c5]
 refine yf.loopOut (fun z f t => ∃ (i : Nat) (y : Nat), z = l.length - i ∧ i ≤ l.length ∧ (∀ x ∈ l.take i, zu x) ∧ n + 1 + ((l.take i).map yH).sum ≤ 20000 ∧ y ≤ 200000 ∧ zd t p [.int .i64 ((n + 1 + ((l.take i).map yH).sum : Nat) : Int), .int .i64 (y : Int)] ∧ zd t s.next [.int .i64 kind, .int .i64 num, bv, lv, dv] ∧ zA (.pointer (some ⟨p, 0, none⟩)) s t ∧ f.n = 119 ∧ f.get 0 = .pointer (some ⟨p, 0, some 3⟩) ∧ f.get 2 = .int .i64 depth ∧ f.get 4 = .pointer (some ⟨s.next, 0, some 6⟩) ∧ f.get 7 = .int .i64 (i : Nat))
  (fun z f t => (z = .ret ∧ zA (.pointer (some ⟨p, 0, none⟩)) s t ∧ (∃ x y : Int, zd t p [.int .i64 x, .int .i64 y]) ∧ f.n = 119 ∧ f.get 6 = .bool false) ∨ (z = .exit 0 ∧ ∃ y : Nat, (∀ x ∈ l, zu x) ∧ n + 1 + (l.map yH).sum ≤ 20000 ∧ y ≤ 200000 ∧ zd t p [.int .i64 ((n + 1 + (l.map yH).sum : Nat) : Int), .int .i64 (y : Int)] ∧ zd t s.next [.int .i64 kind, .int .i64 num, bv, lv, dv] ∧ zA (.pointer (some ⟨p, 0, none⟩)) s t ∧ f.n = 119 ∧ f.get 0 = .pointer (some ⟨p, 0, some 3⟩) ∧ f.get 2 = .int .i64 depth ∧ f.get 4 = .pointer (some ⟨s.next, 0, some 6⟩)))
  ⟨0, m + b.length, rfl, by omega, by simp, by simp; omega, by omega, by simpa using hp3, ht3, hu3, by simp only [zf, hn], by simp only [za, ↓reduceIte, Nat.reduceEqDiff, h0], by simp only [za, ↓reduceIte, Nat.reduceEqDiff, h2], by simp only [za, ↓reduceIte, Nat.reduceEqDiff], by simp only [za, ↓reduceIte]; rfl⟩ ?_ ?_
 ·clear hn h0 h1 h2 f
  rintro Q hQ z f t ⟨i, y, rfl, hi, hS, hsum, hy, hpt, htt, hut, hn, h0, h2, h4, h7⟩
  have hLt := hL.turnsF fl hut hFn
  have l6 : zg Try.prog t 28 (.pointer (some ⟨s.next, 3, some 6⟩)) = some lv := htt.load agLs (off := 3) (c := 6) rfl (by simp)
  by_cases hlt : i < l.length
  rotate_left
  ·obtain rfl : i = l.length := by omega
   rw [List.take_length] at hS hsum hpt
   have d1 : ¬ ((l.length : Nat) : Int) < ((l.length : Nat) : Int) := by omega
   simp -implicitDefEqProofs (disch := omega) only [allW, zc, Nat.reduceLT, Nat.reduceEqDiff, ↓reduceIte, hn, h4, h7, of3, l6, hLt.lenA Try.underlying28, eq_false d1]
   exact hQ _ _ _ (.inr ⟨rfl, y, hS, hsum, hy, hpt, htt, hut, by simp only [zf, hn], by simp only [za, ↓reduceIte, Nat.reduceEqDiff, h0], by simp only [za, ↓reduceIte, Nat.reduceEqDiff, h2], by simp only [za, ↓reduceIte, Nat.reduceEqDiff, h4]⟩)
  have d1 : (i : Int) < (l.length : Int) := by omega
  have hix := hLt.indexAddr (P := Try.prog) (k := .i64) (x := (i : Int)) Try.underlying28 szO (by omega) (by omega)
  rw [Int.toNat_natCast] at hix
  have hld := hLt.loadAgg (P := Try.prog) agO szO hlt
  have hoi := (rl.row i hlt).turns hut hFn
  simp -implicitDefEqProofs (disch := omega) only [allW, allR, zc, Nat.reduceLT, Nat.reduceEqDiff, ↓reduceIte, hn, h0, h2, h4, h7, of3, l6, hLt.lenA Try.underlying28, eq_true d1, hix, hld, zR]
  refine (ih l[i] (by have := O.items_lt (k := kind) (n := num) (b := b) (l := l) (d := d) (List.getElem_mem hlt); omega) F t _ (depth - 1) p _ y hoi hFp (hfL _ (List.getElem_mem hlt)) (by omega) (by omega) hsum (by omega) hpt).mono ?_
  rintro _ t2 ⟨u, rfl, hu, hx, hok⟩
  have hut2 := hut.trans hu
  cases u with
  | false =>
   simp -implicitDefEqProofs (disch := omega) only [allW, Nat.reduceLT, ↓reduceIte, hn]
   exact hQ _ _ _ (.inl ⟨rfl, hut2, hx, by simp only [zf, hn], by simp only [za, ↓reduceIte]⟩)
  | true =>
   obtain ⟨hsm, hs2, m', hm', hpm⟩ := hok rfl
   have htt2 := htt.turns hu (fun e => by
    have e : some p = some s.next := e
    injection e with e; omega)
   simp -implicitDefEqProofs (disch := omega) only [allW, Nat.reduceLT, Nat.reduceEqDiff, ↓reduceIte, hn, h7, zR]
   exact zz (l.length - (i + 1)) (by omega) ⟨i + 1, m', rfl, by omega, Tg hS hlt hsm, by rw [ZG hlt]; omega, hm', by rw [ZG hlt, ← Nat.add_assoc]; exact hpm, htt2, hut2, by simp only [zf, hn], by simp only [za, ↓reduceIte, Nat.reduceEqDiff, h0], by simp only [za, ↓reduceIte, Nat.reduceEqDiff, h2], by simp only [za, ↓reduceIte, Nat.reduceEqDiff, h4], by simp only [za, ↓reduceIte]; rfl⟩
 clear hn h0 h1 h2 f
 rintro z f t (⟨rfl, hut, hx, hn, h6⟩ | ⟨rfl, y, hS, hsum, hy, hpt, htt, hut, hn, h0, h2, h4⟩)
 ·simp -implicitDefEqProofs (disch := omega) only [allW]
  exact hno _ _ hut hx hn h6
 simp -implicitDefEqProofs (disch := omega) only [allW, Nat.reduceLT, ↓reduceIte, hn]
 obtain ⟨M, hM⟩ : ∃ M, M = n + 1 + (l.map yH).sum := ⟨_, rfl⟩
 rw [← hM] at hsum hpt
 have hnt : s.next < t.next := htt.lt
 have hpT : p < t.next := hpt.lt
 refine yf.loopOut (fun z f t => ∃ (i : Nat) (y : Nat), z = d.length - i ∧ i ≤ d.length ∧ (∀ e ∈ d.take i, e.1.length ≤ 100000 ∧ zu e.2) ∧ M + ((d.take i).map fun e => yH e.2).sum ≤ 20000 ∧ y ≤ 200000 ∧ zd t p [.int .i64 ((M + ((d.take i).map fun e => yH e.2).sum : Nat) : Int), .int .i64 (y : Int)] ∧ zd t s.next [.int .i64 kind, .int .i64 num, bv, lv, dv] ∧ zA (.pointer (some ⟨p, 0, none⟩)) s t ∧ f.n = 119 ∧ f.get 0 = .pointer (some ⟨p, 0, some 3⟩) ∧ f.get 2 = .int .i64 depth ∧ f.get 4 = .pointer (some ⟨s.next, 0, some 6⟩) ∧ f.get 8 = .int .i64 (i : Nat))
  (fun z f t => (z = .ret ∧ zA (.pointer (some ⟨p, 0, none⟩)) s t ∧ (∃ x y : Int, zd t p [.int .i64 x, .int .i64 y]) ∧ f.n = 119 ∧ f.get 6 = .bool false) ∨ (z = .exit 2 ∧ ∃ y : Nat, (∀ e ∈ d, e.1.length ≤ 100000 ∧ zu e.2) ∧ M + (d.map fun e => yH e.2).sum ≤ 20000 ∧ y ≤ 200000 ∧ zd t p [.int .i64 ((M + (d.map fun e => yH e.2).sum : Nat) : Int), .int .i64 (y : Int)] ∧ zA (.pointer (some ⟨p, 0, none⟩)) s t ∧ f.n = 119))
  ⟨0, y, rfl, by omega, by simp, by simpa using hsum, hy, by simpa using hpt, htt, hut, by simp only [zf, hn], by simp only [za, ↓reduceIte, Nat.reduceEqDiff, h0], by simp only [za, ↓reduceIte, Nat.reduceEqDiff, h2], by simp only [za, ↓reduceIte, Nat.reduceEqDiff, h4], by simp only [za, ↓reduceIte]; rfl⟩ ?_ ?_
 ·clear hn h0 h2 h4 f hpt htt hut hy y hnt hpT t
  rintro Q hQ z f t ⟨i, y, rfl, hi, hK, hsum, hy, hpt, htt, hut, hn, h0, h2, h4, h8⟩
  have hDt := hD.turnsF fd hut hFn
  have l6 : zg Try.prog t 29 (.pointer (some ⟨s.next, 4, some 6⟩)) = some dv := htt.load agDs (off := 4) (c := 6) rfl (by simp)
  by_cases hlt : i < d.length
  rotate_left
  ·obtain rfl : i = d.length := by omega
   rw [List.take_length] at hK hsum hpt
   have d1 : ¬ ((d.length : Nat) : Int) < ((d.length : Nat) : Int) := by omega
   simp -implicitDefEqProofs (disch := omega) only [allW, zc, Nat.reduceLT, Nat.reduceEqDiff, ↓reduceIte, hn, h4, h8, of4, l6, hDt.lenA Try.underlying29, eq_false d1]
   exact hQ _ _ _ (.inr ⟨rfl, y, hK, hsum, hy, hpt, hut, by simp only [zf, hn]⟩)
  have d1 : (i : Int) < (d.length : Int) := by omega
  have hpT : p < t.next := hpt.lt
  have htT : s.next < t.next := htt.lt
  simp -implicitDefEqProofs (disch := omega) only [allW, zc, Nat.reduceLT, Nat.reduceEqDiff, ↓reduceIte, hn, h4, h8, of4, l6, hDt.lenA Try.underlying29, eq_true d1]
  obtain ⟨B, hB⟩ : ∃ B : Nat -> Bool, B = fun j => decide (j < t.next) := ⟨_, rfl⟩
  have hBl : ∀ j, B j = true -> j < t.next := by
   intro j h
   rw [hB] at h
   exact of_decide_eq_true h
  have hBo : ∀ j, j < t.next -> B j = true := fun j h => by rw [hB]; exact decide_eq_true h
  refine LB.Drawn.looseK B hBl 0 0 (by kernel_rfl) (by kernel_rfl) ?_
  have hsq := Stay.spare t 0
  have hnQ : (spare t 0).next = t.next + 0 := zH _ _
  have mlp : ∀ k, LA.lowV B (some (.pointer (some ⟨p, k, some 3⟩))) = true := fun k => LA.lowV_ptr (A := B) (i := p) (hBo _ hpT)
  have mlb : ∀ k, LA.lowV B (some (.pointer (some ⟨s.next, k, some 6⟩))) = true := fun k => LA.lowV_ptr (A := B) (i := s.next) (hBo _ htT)
  have hDq := hDt.keeps hsq
  have v1 : zg Try.prog (spare t 0) 3 (.pointer (some ⟨p, 1, some 3⟩)) = some (.int .i64 (y : Int)) := (hpt.keeps hsq).load zT (off := 1) (c := 3) rfl (by simp)
  have v2 : zg Try.prog (spare t 0) 29 (.pointer (some ⟨s.next, 4, some 6⟩)) = some dv := (htt.keeps hsq).load agDs (off := 4) (c := 6) rfl (by simp)
  have hix := hDq.indexAddr (P := Try.prog) (k := .i64) (x := (i : Int)) Try.underlying29 szE (by omega) (by omega)
  rw [Int.toNat_natCast] at hix
  obtain ⟨q0, q1⟩ := efE hDq hlt
  obtain ⟨r, hr1, hr2, hr3⟩ := rd.row i hlt
  obtain ⟨hk6, hv6⟩ := ve hr1
  have hlk := hDq.loadField (P := Try.prog) xy hlt (j := 0) (by omega)
  rw [Nat.add_zero, hk6] at hlk
  have hfk := hfK _ (List.getElem_mem hlt)
  have lP := fun j => LA.lowV_plus hDt hBo hlt j
  simp -implicitDefEqProofs (disch := omega) only [allW, allL, allB, zc, Nat.reduceLT, Nat.reduceEqDiff, ↓reduceIte, hn, h0, h4, h8, sf1, of4, mlp, mlb, lP, v1, v2, hDq.self, hix, q0, hlk, Qo Try.underlying9, zR, yC]
  refine LB.sstep_storeN yP (by decide) (hpt.keeps hsq) (off := 1) (c := 3) rfl (v := .int .i64 ((y : Int) + (d[i].1).length)) (vs := [.int .i64 ((y : Int) + (d[i].1).length)]) rfl rfl (by simp) rfl (fun h => absurd rfl h) ?_
  intro t1 hp1' hnx1' hot1'
  have hp1' : zd t1 p [.int .i64 ((M + ((d.take i).map fun e => yH e.2).sum : Nat) : Int), .int .i64 ((y : Int) + (d[i].1).length)] := hp1'
  have hu1' : zA (.pointer (some ⟨p, 0, none⟩)) t t1 := ⟨by omega, fun j hj hne => by
   rw [hot1' j (fun e => hne (by rw [e]; rfl)), hsq.get j hj]⟩
  have hut1 := hut.trans hu1'
  have htt1 : zd t1 s.next [.int .i64 kind, .int .i64 num, bv, lv, dv] := (htt.keeps hsq).ofPut hnx1' hot1' (by omega)
  have hDr := hD.turnsF fd hut1 hFn
  have v3 : zg Try.prog t1 29 (.pointer (some ⟨s.next, 4, some 6⟩)) = some dv := htt1.load agDs (off := 4) (c := 6) rfl (by simp)
  have hix' := hDr.indexAddr (P := Try.prog) (k := .i64) (x := (i : Int)) Try.underlying29 szE (by omega) (by omega)
  rw [Int.toNat_natCast] at hix'
  have hlk' := hDr.loadField (P := Try.prog) xy hlt (j := 0) (by omega)
  rw [Nat.add_zero, hk6] at hlk'
  have hlv' := hDr.loadPart (P := Try.prog) agO szO hlt (j := 1) (by omega)
  rw [hv6] at hlv'
  by_cases c6 : (((d[i].1).length : Nat) : Int) > 300
  ·simp -implicitDefEqProofs (disch := omega) only [allW, allR, allB, Nat.reduceSub, zc, Nat.reduceLT, Nat.reduceEqDiff, ↓reduceIte, allW, allR, zc, Nat.reduceLT, Nat.reduceEqDiff, ↓reduceIte, hn, h4, h8, of4, v3, hix', q0, hlk', Qo Try.underlying9, eq_true c6]
   exact hQ _ _ _ (.inl ⟨rfl, hut1, ⟨_, _, hp1'⟩, by simp only [zf, hn], by simp only [za, ↓reduceIte]⟩)
  have hoi := hr2.turns hut1 hFn
  simp -implicitDefEqProofs (disch := omega) only [allW, allR, allB, Nat.reduceSub, zc, Nat.reduceLT, Nat.reduceEqDiff, ↓reduceIte, allW, allR, zc, Nat.reduceLT, Nat.reduceEqDiff, ↓reduceIte, hn, h0, h2, h4, h8, of4, v3, hix', q0, q1, hlk', hlv', Qo Try.underlying9, eq_false c6, zR]
  refine (ih d[i].2 (by have := O.ents_lt (k := kind) (n := num) (b := b) (l := l) (d := d) (List.getElem_mem hlt); omega) F t1 _ (depth - 1) p _ (y + (d[i].1).length) hoi hFp (hfD _ (List.getElem_mem hlt)) (by omega) (by omega) hsum (by omega) hp1').mono ?_
  rintro _ t2 ⟨u, rfl, hu, hx, hok⟩
  have hut2 := hut1.trans hu
  cases u with
  | false =>
   simp -implicitDefEqProofs (disch := omega) only [allW, allR, Nat.reduceLT, Nat.reduceEqDiff, ↓reduceIte, hn]
   exact hQ _ _ _ (.inl ⟨rfl, hut2, hx, by simp only [zf, hn], by simp only [za, ↓reduceIte]⟩)
  | true =>
   obtain ⟨hsm, hs2, m', hm', hpm⟩ := hok rfl
   have htt2 := htt1.turns hu (fun e => by
    have e : some p = some s.next := e
    injection e with e; omega)
   have hst : ((d.take (i + 1)).map fun e => yH e.2).sum = ((d.take i).map fun e => yH e.2).sum + yH d[i].2 := ZG (f := fun e : List UInt8 × O => yH e.2) hlt
   simp -implicitDefEqProofs (disch := omega) only [allW, allR, Nat.reduceLT, Nat.reduceEqDiff, ↓reduceIte, hn, h8, zR]
   refine zz (d.length - (i + 1)) (by omega) ⟨i + 1, m', rfl, by omega, ?_, by rw [hst]; omega, hm', by rw [hst, ← Nat.add_assoc]; exact hpm, htt2, hut2, by simp only [zf, hn], by simp only [za, ↓reduceIte, Nat.reduceEqDiff, h0], by simp only [za, ↓reduceIte, Nat.reduceEqDiff, h2], by simp only [za, ↓reduceIte, Nat.reduceEqDiff, h4], by simp only [za, ↓reduceIte]; rfl⟩
   intro e he
   rw [List.take_add_one, List.getElem?_eq_getElem hlt, List.mem_append] at he
   rcases he with he | he
   ·exact hK e he
   ·simp at he; rw [he]; exact ⟨by omega, hsm⟩
 clear hn h0 h2 h4 f hpt htt hut hy y hnt hpT t
 rintro z f t (⟨rfl, hut, hx, hn, h6⟩ | ⟨rfl, y, hK, hsum, hy, hpt, hut, hn⟩)
 ·simp -implicitDefEqProofs (disch := omega) only [allW]
  exact hno _ _ hut hx hn h6
 simp -implicitDefEqProofs (disch := omega) only [allW, zj, zh, Nat.reduceLT, ↓reduceIte, hn, Try.results50]
 have hnod : n + yH (.mk kind num b l d) = M + (d.map fun e => yH e.2).sum := by rw [Jq, hM]; omega
 exact ⟨true, rfl, hut, ⟨_, _, hpt⟩, fun _ => ⟨.mk (by omega) (by omega) (by omega) (fun e he => (hK e he).1) hS (fun e he => (hK e he).2), by rw [hnod]; exact hsum, y, hy, by rw [hnod]; exact hpt⟩⟩
end Go.Proofs.Ytokfoagohblkoaa
namespace Go.Cl
structure FitD (D : Dc) : Prop where
 mark : D.mark.length ≤ 140737488351232
 trailer : Fit D.trailer
 len : D.items.length ≤ 140737488351232
 items : ∀ e ∈ D.items, Fit e.2
structure yN (D : Dc) : Prop where
 mark : D.mark.length ≤ 100
 len : D.items.length ≤ 60
 trailer : zu D.trailer
 items : ∀ e ∈ D.items, zu e.2
 nodes : yH D.trailer + (D.items.map fun e => yH e.2).sum ≤ 20000
structure FairD (D : Dc) : Prop where
 small : yN D
 kind : D.trailer.kind = 7
 may : MayO 28 D.trailer
 mays : ∀ e ∈ D.items, MayO 28 e.2
 nums : ∀ e ∈ D.items, 1 ≤ e.1 ∧ e.1 ≤ 8388607
 rises : D.items.Pairwise fun a b => a.1 < b.1
theorem five {tc : List Value} (h : tc.length = 5) : ∃ a b c d e, tc = [a, b, c, d, e] := by
 match tc, h with
 | [a, b, c, d, e], _ => exact ⟨a, b, c, d, e, rfl⟩
end Go.Cl
namespace Go.Proofs.Ytokfoagohblkoaa
open Go.Cl Go.Lib
section
variable {t : ASt} {i : Nat} {D : Dc} {mv iv : Value} {tc : List Value}
theorem xh (hl : tc.length = 5) : (docC D mv tc iv).length = 9 := by simp [docC, hl]
theorem UM (h : zd t i (docC D mv tc iv)) (hl : tc.length = 5) : zg Try.prog t 27 (.pointer (some ⟨i, 1, some 10⟩)) = some mv := by
 have := h.load (P := Try.prog) agSl (off := 1) (c := 10) (by rw [xh hl]) (by rw [xh hl]; omega)
 rw [this]; rfl
theorem ji (h : zd t i (docC D mv tc iv)) (hl : tc.length = 5) : zg Try.prog t 31 (.pointer (some ⟨i, 3, some 10⟩)) = some (.agg tc.toArray) := by
 have := zd.loadMid (P := Try.prog) agO szO h (off := 3) (c := 10) (by rw [xh hl]) (by rw [xh hl]; omega)
 rw [this]
 obtain ⟨a, b, c, d, e, rfl⟩ := five hl
 rfl
theorem abc {F : Nat -> Prop} {s : ASt} (ho : OIs F s tc D.trailer) (h : zd t i (docC D mv tc iv)) : zg Try.prog t 3 (.pointer (some ⟨i, 3, some 10⟩)) = some (.int .i64 D.trailer.kind) := by
 have hl := ho.len
 have := h.load (P := Try.prog) zT (off := 3) (c := 10) (by rw [xh hl]) (by rw [xh hl]; omega)
 rw [this]
 cases hD : D.trailer with
 | mk k n b l d =>
  rw [hD] at ho
  obtain ⟨bv, lv, dv, lc, dc, rfl, -⟩ := ho.parts
  rfl
theorem xO (h : zd t i (docC D mv tc iv)) (hl : tc.length = 5) : zg Try.prog t 32 (.pointer (some ⟨i, 8, some 10⟩)) = some iv := by
 have := h.load (P := Try.prog) agIs (off := 8) (c := 10) (by rw [xh hl]) (by rw [xh hl]; omega)
 rw [this]
 obtain ⟨a, b, c, d, e, rfl⟩ := five hl
 rfl
theorem xC (h : zd t i (docC D mv tc iv)) (hl : tc.length = 5) : zg Try.prog t 34 (.pointer (some ⟨i, 0, some 10⟩)) = some (.agg (docC D mv tc iv).toArray) := zd.loadAll agD (by rw [xh hl]; exact szD) h (by rw [xh hl])
end
theorem oiI {s : ASt} {v : Value} {n : Nat} {l : List Value} (h : Sees s 6 v n l) {k : Nat} (hk : k < n) : zk Try.prog 31 (yL (zL 6 v k) 1) 0 = some (yL (zL 6 v k) 1) ∧ zk Try.prog 31 (yL (zL 6 v k) 1) 2 = some (yL (zL 6 v k) 3) := by
 obtain ⟨i, off, c, e, _⟩ := h.cells hk
 rw [e]
 refine ⟨?_, ?_⟩ <;> · unfold zk; rw [Try.underlying31]; simp [yP, szSl, yL]
theorem VV {F : Nat -> Prop} {s : ASt} {ic : List Value} {i : Nat} {e : Int × O} (h : ItIs F s ((ic.drop (i * 6)).take 6) e) : ic.getD (i * 6) undef = .int .i64 e.1 ∧ (ic.drop (i * 6 + 1)).take 5 = ((ic.drop (i * 6)).take 6).drop 1 ∧ OIs F s ((ic.drop (i * 6 + 1)).take 5) e.2 ∧ ∃ bv, ic.getD (i * 6 + 3) undef = bv ∧ Sees s 1 bv e.2.bytes.length (zF e.2.bytes) ∧ Foot F bv := by
 obtain ⟨r, hr, ho⟩ := h
 obtain ⟨h1, h2⟩ := ve hr
 refine ⟨h1, by rw [h2, hr]; rfl, by rw [h2]; exact ho, _, rfl, ?_⟩
 have h3 : ((ic.drop (i * 6 + 1)).take 5)[2]? = ic[i * 6 + 3]? := by
  rw [List.getElem?_take_of_lt (by omega), List.getElem?_drop]
 rw [h2] at h3
 obtain ⟨k, o⟩ := e
 cases o with
 | mk kd n b l d =>
  obtain ⟨bv, lv, dv, lc, dc, rfl, hb, hl, hd, fb, -⟩ := ho.parts
  have h4 : ic.getD (i * 6 + 3) undef = bv := by
   rw [List.getD_eq_getElem?_getD, ← h3]; rfl
  rw [h4]
  exact ⟨hb, fb⟩
def Sv (s : ASt) (D : Dc) (v : Value) (s' : ASt) : Prop := Tells (yN D) v ∧ Stay s.next s s'
set_option maxHeartbeats 8000000 in
theorem Sw {lib : zm} (hl : lib.at 30 = none) (hl0 : lib.at 50 = none) (F : Nat -> Prop) (s : ASt) (D : Dc) (mv : Value) (tc : List Value) (iv : Value) (ic : List Value) (hD : ye F s mv tc iv ic D) (hf : FitD D) :
  Runs Try.prog lib 30 [.agg (docC D mv tc iv).toArray] s (Sv s D) := by
 have htl := hD.trailer.len
 have hDl := hD.lows
 have dl := xh (D := D) (mv := mv) (iv := iv) htl
 refine Runs.enter 53 Try.func30 rfl hl rfl rfl ?_
 intro f hn hf'
 have h0 : f.get 0 = .agg (docC D mv tc iv).toArray := hf' 0
 clear hf'
 simp -implicitDefEqProofs (disch := omega) only [allW, Nat.reduceLT, ↓reduceIte, hn, h0]
 refine ze ?_
 intro s1 ht1 hst1 hnx1
 have ht1 : zd s1 s.next (docC D mv tc iv) := ht1
 have bSz : yE Try.prog 107 [] = some (.agg #[.int .i64 0, .int .i64 0]) := by kernel_rfl
 simp -implicitDefEqProofs (disch := omega) only [allW, zn, Nat.reduceLT, Nat.reduceAdd, ↓reduceIte, hn, dl, bSz]
 refine ze ?_
 intro s2 ht2 hst2 hnx2
 have ht2 : zd s2 s1.next [.int .i64 ((0 : Nat) : Int), .int .i64 ((0 : Nat) : Int)] := ht2
 have ht12 := ht1.keeps hst2
 have hs2 : Stay s.next s s2 := hst1.trans (hst2.weaken (by omega))
 have hno : ∀ (f : AFr) (t : ASt), Stay s.next s t -> f.n = 53 -> f.get 2 = .bool false -> wfn Try.prog Try.f30.results.toList (Sv s D) .ret f t := by
  intro f t hs hn h2
  simp -implicitDefEqProofs (disch := omega) only [allW, zj, zh, Nat.reduceLT, ↓reduceIte, hn, h2, Try.results30]
  exact ⟨⟨false, rfl, fun h => by cases h⟩, hs⟩
 have hi2 := hD.items.keeps hs2
 have hm2 := hD.mark.keeps hs2
 have hsz3 : (2 : Nat) + 1 = 3 := rfl
 by_cases c1 : ((D.items.length : Nat) : Int) > 60
 ·simp -implicitDefEqProofs (disch := omega) only [allW, allR, zc, Nat.reduceLT, Nat.reduceEqDiff, ↓reduceIte, undef, hn, df4, xO ht12 htl, hi2.lenA Try.underlying32, eq_true c1]
  exact hno _ _ hs2 (by simp only [zf, hn]) (by simp only [za, ↓reduceIte])
 by_cases c2 : ((D.mark.length : Nat) : Int) > 100
 ·simp -implicitDefEqProofs (disch := omega) only [allW, allR, zc, Nat.reduceLT, Nat.reduceEqDiff, ↓reduceIte, undef, hn, df4, df1, xO ht12 htl, UM ht12 htl, hi2.lenA Try.underlying32, hm2.lenA Try.underlying27, eq_false c1, eq_true c2]
  exact hno _ _ hs2 (by simp only [zf, hn]) (by simp only [za, ↓reduceIte])
 simp -implicitDefEqProofs (disch := omega) only [allW, allR, zc, Nat.reduceLT, Nat.reduceEqDiff, Nat.reduceAdd, ↓reduceIte, hn, df4, df1, df3, xO ht12 htl, UM ht12 htl, ji ht12 htl, hi2.lenA Try.underlying32, hm2.lenA Try.underlying27, eq_false c1, eq_false c2, List.length_cons, List.length_nil, hsz3]
 refine (Jr hl0 _ D.trailer (Nat.le_refl _) (fun j => F j ∧ j < s.next) s2 tc 8 s1.next 0 0 (hDl.trailer.keeps hs2) (fun j hj => by have := hj.2; omega) hf.trailer (by decide) (by decide) (by omega) (by omega) ht2).mono ?_
 rintro _ s3 ⟨u, rfl, hu, _, hok⟩
 have n1 := hst1.next
 have n2 := hst2.next
 have hst : Stay s.next s s3 := hs2.trans ⟨hu.next, fun j hj => hu.get j (by have := hs2.next; omega) (fun e => by
  have e : some s1.next = some j := e
  injection e with e; omega)⟩
 cases u with
 | false =>
  simp -implicitDefEqProofs (disch := omega) only [allW, allR, Nat.reduceLT, Nat.reduceEqDiff, ↓reduceIte, hn]
  exact hno _ _ hst (by simp only [zf, hn]) (by simp only [za, ↓reduceIte])
 | true =>
 obtain ⟨stl, snl, m0, hm0, hp3⟩ := hok rfl
 rw [Nat.zero_add] at snl hp3
 simp -implicitDefEqProofs (disch := omega) only [allW, allR, Nat.reduceLT, Nat.reduceEqDiff, ↓reduceIte, hn]
 obtain ⟨T0, hT0⟩ : ∃ T0, T0 = yH D.trailer := ⟨_, rfl⟩
 rw [← hT0] at snl hp3
 have ht3 : zd s3 s.next (docC D mv tc iv) := ht12.turns hu (fun e => by
  have e : some s1.next = some s.next := e
  injection e with e; omega)
 have hp3l := hp3.lt
 refine yf.loopOut (fun z f t => ∃ (i q m : Nat), z = D.items.length - i ∧ i ≤ D.items.length ∧ q ≤ 100000 * i ∧ m ≤ 200000 ∧ (∀ e ∈ D.items.take i, zu e.2) ∧ T0 + ((D.items.take i).map fun e => yH e.2).sum ≤ 20000 ∧ zd t s1.next [.int .i64 ((T0 + ((D.items.take i).map fun e => yH e.2).sum : Nat) : Int), .int .i64 (m : Int)] ∧ zd t s.next (docC D mv tc iv) ∧ Stay s.next s t ∧ f.n = 53 ∧ f.get 1 = .pointer (some ⟨s.next, 0, some 10⟩) ∧ f.get 3 = .pointer (some ⟨s1.next, 0, some 3⟩) ∧ f.get 4 = .int .i64 (q : Int) ∧ f.get 5 = .int .i64 (i : Nat))
  (fun z f t => (z = .ret ∧ Stay s.next s t ∧ f.n = 53 ∧ f.get 2 = .bool false) ∨ (z = .exit 0 ∧ ∃ q : Nat, (∀ e ∈ D.items, zu e.2) ∧ T0 + (D.items.map fun e => yH e.2).sum ≤ 20000 ∧ Stay s.next s t ∧ f.n = 53 ∧ f.get 4 = .int .i64 (q : Int)))
  ⟨0, 0, m0, rfl, by omega, by omega, hm0, by simp, by simpa using snl, by simpa using hp3, ht3, hst, by simp only [zf, hn], by simp only [za, ↓reduceIte, Nat.reduceEqDiff], by simp only [za, ↓reduceIte, Nat.reduceEqDiff], by simp only [za, ↓reduceIte, Nat.reduceEqDiff]; rfl, by simp only [za, ↓reduceIte]; rfl⟩ ?_ ?_
 ·clear hn h0 f
  rintro Q hQ z f t ⟨i, q, m, rfl, hi, hq, hm, hS, hsum, hpt, htt, hut, hn, h1, h3, h4, h5⟩
  have hIt := hD.items.keeps hut
  have hpT : s1.next < t.next := hpt.lt
  by_cases hlt : i < D.items.length
  rotate_left
  ·obtain rfl : i = D.items.length := by omega
   rw [List.take_length] at hS hsum
   have d1 : ¬ ((D.items.length : Nat) : Int) < ((D.items.length : Nat) : Int) := by omega
   simp -implicitDefEqProofs (disch := omega) only [allW, zc, Nat.reduceLT, Nat.reduceEqDiff, ↓reduceIte, hn, h1, h5, df4, xO htt htl, hIt.lenA Try.underlying32, eq_false d1]
   exact hQ _ _ _ (.inr ⟨rfl, q, hS, hsum, hut, by simp only [zf, hn], by simp only [za, ↓reduceIte, Nat.reduceEqDiff, h4]⟩)
  have d1 : (i : Int) < (D.items.length : Int) := by omega
  have hix := hIt.indexAddr (P := Try.prog) (k := .i64) (x := (i : Int)) Try.underlying32 szI (by omega) (by omega)
  rw [Int.toNat_natCast] at hix
  obtain ⟨q0, q1⟩ := efI hIt hlt
  obtain ⟨b1, b2, b3, bv, b4, b5, b6⟩ := VV (hDl.rows.row i hlt)
  have hlv := hIt.loadPart (P := Try.prog) agO szO hlt (j := 1) (by omega)
  simp -implicitDefEqProofs (disch := omega) only [allW, allR, zc, Nat.reduceLT, Nat.reduceEqDiff, ↓reduceIte, hn, h1, h3, h5, df4, xO htt htl, hIt.lenA Try.underlying32, eq_true d1, hix, q1, hlv]
  refine (Jr hl0 _ D.items[i].2 (Nat.le_refl _) (fun j => F j ∧ j < s.next) t _ 40 s1.next _ m (b3.keeps hut) (fun j hj => by have := hj.2; omega) (hf.items _ (List.getElem_mem hlt)) (by decide) (by decide) hsum (by omega) hpt).mono ?_
  rintro _ t2 ⟨u, rfl, hu2, _, hok⟩
  have hst2 : Stay s.next s t2 := hut.trans ⟨hu2.next, fun j hj => hu2.get j (by have := hut.next; omega) (fun e => by
   have e : some s1.next = some j := e
   injection e with e; omega)⟩
  cases u with
  | false =>
   simp -implicitDefEqProofs (disch := omega) only [allW, Nat.reduceLT, ↓reduceIte, hn]
   exact hQ _ _ _ (.inl ⟨rfl, hst2, by simp only [zf, hn], by simp only [za, ↓reduceIte]⟩)
  | true =>
   obtain ⟨hsm, hs2', m', hm', hpm⟩ := hok rfl
   have htt2 : zd t2 s.next (docC D mv tc iv) := htt.turns hu2 (fun e => by
    have e : some s1.next = some s.next := e
    injection e with e; omega)
   have hIt2 := hD.items.keeps hst2
   obtain ⟨o0, o2⟩ := oiI hIt2 hlt
   have hlb := hIt2.loadField (P := Try.prog) agSl hlt (j := 3) (by omega)
   rw [b4] at hlb
   have hbl := b5.keeps hst2
   have hbn : D.items[i].2.bytes.length ≤ 100000 := by
    generalize D.items[i].2 = o at hsm
    cases hsm; assumption
   have hst : ((D.items.take (i + 1)).map fun e => yH e.2).sum = ((D.items.take i).map fun e => yH e.2).sum + yH D.items[i].2 := ZG (f := fun e : Int × O => yH e.2) hlt
   simp -implicitDefEqProofs (disch := omega) only [allW, zc, Nat.reduceLT, Nat.reduceEqDiff, ↓reduceIte, hn, h1, h4, h5, df4, xO htt2 htl, hix, q1, o2, hlb, hbl.lenA Try.underlying27, zR]
   refine zz (D.items.length - (i + 1)) (by omega) ⟨i + 1, q + D.items[i].2.bytes.length, m', rfl, by omega, by omega, hm', ?_, by rw [hst]; omega, by rw [hst, ← Nat.add_assoc]; exact hpm, htt2, hst2, by simp only [zf, hn], by simp only [za, ↓reduceIte, Nat.reduceEqDiff, h1], by simp only [za, ↓reduceIte, Nat.reduceEqDiff, h3], by simp only [za, ↓reduceIte, Nat.reduceEqDiff]; rfl, by simp only [za, ↓reduceIte]; rfl⟩
   intro e he
   rw [List.take_add_one, List.getElem?_eq_getElem hlt, List.mem_append] at he
   rcases he with he | he
   ·exact hS e he
   ·simp at he; rw [he]; exact hsm
 clear hn h0 f
 rintro z f t (⟨rfl, hut, hn, h2⟩ | ⟨rfl, q, hS, hsum, hut, hn, h4⟩)
 ·simp -implicitDefEqProofs (disch := omega) only [allW]
  exact hno _ _ hut hn h2
 simp -implicitDefEqProofs (disch := omega) only [allW, zj, zh, Nat.reduceLT, ↓reduceIte, hn, h4, Try.results30]
 exact ⟨⟨_, rfl, fun _ => ⟨by omega, by omega, stl, hS, by rw [← hT0]; exact hsum⟩⟩, hut⟩
end Go.Proofs.Ytokfoagohblkoaa
namespace Go.Proofs.Ytokfoagohblkoaa
open Go.Cl Go.Lib
def FairR (s : ASt) (D : Dc) (v : Value) (s' : ASt) : Prop := Tells (FairD D) v ∧ Stay s.next s s'
set_option maxHeartbeats 8000000 in
theorem aak {lib : zm} (hl : lib.at 13 = none) (hls : lib.at 30 = none) (hl0 : lib.at 50 = none)
  (m0 : lib.at 14 = none) (m1 : lib.at 31 = none) (m2 : lib.at 51 = none) (m3 : lib.at 52 = none) (m4 : lib.at 53 = none) (m5 : lib.at 54 = none)
  (F : Nat -> Prop) (s : ASt) (D : Dc) (mv : Value) (tc : List Value) (iv : Value) (ic : List Value) (hD : ye F s mv tc iv ic D) (hf : FitD D) :
  Runs Try.prog lib 13 [.agg (docC D mv tc iv).toArray] s (FairR s D) := by
 have htl := hD.trailer.len
 have dl := xh (D := D) (mv := mv) (iv := iv) htl
 refine Runs.enter 72 Try.func13 rfl hl rfl rfl ?_
 intro f hn hf'
 have h0 : f.get 0 = .agg (docC D mv tc iv).toArray := hf' 0
 clear hf'
 simp -implicitDefEqProofs (disch := omega) only [allW, Nat.reduceLT, ↓reduceIte, hn, h0]
 refine ze ?_
 intro s1 ht1 hst1 hnx1
 have ht1 : zd s1 s.next (docC D mv tc iv) := ht1
 have hno : ∀ (f : AFr) (t : ASt), Stay s.next s t -> f.n = 72 -> f.get 2 = .bool false -> wfn Try.prog Try.f13.results.toList (FairR s D) .ret f t := by
  intro f t hs hn h2
  simp -implicitDefEqProofs (disch := omega) only [allW, zj, zh, Nat.reduceLT, ↓reduceIte, hn, h2, Try.results13]
  exact ⟨⟨false, rfl, fun h => by cases h⟩, hs⟩
 simp -implicitDefEqProofs (disch := omega) only [allW, allR, zc, Nat.reduceLT, Nat.reduceEqDiff, Nat.reduceAdd, ↓reduceIte, hn, dl, xC ht1 htl]
 refine (Sw hls hl0 F s1 D mv tc iv ic (hD.keeps hst1) hf).mono ?_
 rintro _ s2 ⟨⟨u, rfl, hu⟩, k2⟩
 have hs2 : Stay s.next s s2 := hst1.trans (k2.weaken hst1.next)
 have ht2 := ht1.keeps k2
 cases u with
 | false =>
  simp -implicitDefEqProofs (disch := omega) only [allW, allR, Nat.reduceLT, Nat.reduceEqDiff, ↓reduceIte, undef, hn]
  exact hno _ _ hs2 (by simp only [zf, hn]) (by simp only [za, ↓reduceIte])
 | true =>
 have hsm := hu rfl
 have hlen60 := hsm.len
 simp -implicitDefEqProofs (disch := omega) only [allW, allR, zc, Nat.reduceLT, Nat.reduceEqDiff, ↓reduceIte, hn, df3, ji ht2 htl]
 refine (kH m0 m1 m2 m3 m4 m5 D.trailer F s2 tc (hD.trailer.keeps hs2) hf.trailer).mono ?_
 rintro _ s3 ⟨⟨u, rfl, hmay⟩, k3⟩
 have hs3 : Stay s.next s s3 := hs2.trans (k3.weaken hs2.next)
 have ht3 := ht2.keeps k3
 cases u with
 | false =>
  simp -implicitDefEqProofs (disch := omega) only [allW, allR, Nat.reduceLT, Nat.reduceEqDiff, ↓reduceIte, undef, hn]
  exact hno _ _ hs3 (by simp only [zf, hn]) (by simp only [za, ↓reduceIte])
 | true =>
 have hmay := hmay.1 rfl
 have lk := abc (iv := iv) (mv := mv) hD.trailer ht3
 by_cases c7 : D.trailer.kind = 7
 rotate_left
 ·simp -implicitDefEqProofs (disch := omega) only [allW, allR, Nat.reduceLT, Nat.reduceEqDiff, Nat.reduceAdd, ↓reduceIte, hn, df3, of0, lk, eq_false c7]
  exact hno _ _ hs3 (by simp only [zf, hn]) (by simp only [za, ↓reduceIte])
 simp -implicitDefEqProofs (disch := omega) only [allW, allR, Nat.reduceLT, Nat.reduceEqDiff, Nat.reduceAdd, ↓reduceIte, hn, df3, of0, lk, c7]
 obtain ⟨Ok, hOk⟩ : ∃ Ok : Nat -> Prop, Ok = fun j => ∀ e, D.items[j]? = some e -> MayO 28 e.2 ∧ 1 ≤ e.1 ∧ e.1 ≤ 8388607 ∧ ∀ e', 0 < j -> D.items[j - 1]? = some e' -> e'.1 < e.1 := ⟨_, rfl⟩
 refine yf.loopOut (fun z f t => ∃ i : Nat, z = D.items.length - i ∧ i ≤ D.items.length ∧ (∀ j, j < i -> Ok j) ∧ Stay s3.next s3 t ∧ f.n = 72 ∧ f.get 1 = .pointer (some ⟨s.next, 0, some 10⟩) ∧ f.get 3 = .int .i64 (i : Nat))
  (fun z f t => (z = .ret ∧ Stay s3.next s3 t ∧ f.n = 72 ∧ f.get 2 = .bool false) ∨ (z = .exit 0 ∧ (∀ j, j < D.items.length -> Ok j) ∧ Stay s3.next s3 t ∧ f.n = 72))
  ⟨0, rfl, by omega, fun j h => by omega, Stay.refl _ _, by simp only [zf, hn], by simp only [za, ↓reduceIte, Nat.reduceEqDiff], by simp only [za, ↓reduceIte]; rfl⟩ ?_ ?_
 ·clear hn h0 f
  rintro Q hQ z f t ⟨i, rfl, hi, hP, hst, hn, h1, h3⟩
  have hs0 : Stay s.next s t := hs3.trans (hst.weaken hs3.next)
  have hIt := hD.items.keeps hs0
  have htt := ht3.keeps hst
  by_cases hlt : i < D.items.length
  rotate_left
  ·obtain rfl : i = D.items.length := by omega
   have d1 : ¬ ((D.items.length : Nat) : Int) < ((D.items.length : Nat) : Int) := by omega
   simp -implicitDefEqProofs (disch := omega) only [allW, zc, Nat.reduceLT, Nat.reduceEqDiff, ↓reduceIte, hn, h1, h3, df4, xO htt htl, hIt.lenA Try.underlying32, eq_false d1]
   exact hQ _ _ _ (.inr ⟨rfl, hP, hst, by simp only [zf, hn]⟩)
  have d1 : (i : Int) < (D.items.length : Int) := by omega
  simp -implicitDefEqProofs (disch := omega) only [allW, zc, Nat.reduceLT, Nat.reduceEqDiff, ↓reduceIte, hn, h1, h3, df4, xO htt htl, hIt.lenA Try.underlying32, eq_true d1]
  obtain ⟨B, hB⟩ : ∃ B : Nat -> Bool, B = fun j => decide (j < t.next) := ⟨_, rfl⟩
  have hBl : ∀ j, B j = true -> j < t.next := by
   intro j h
   rw [hB] at h
   exact of_decide_eq_true h
  have hBo : ∀ j, j < t.next -> B j = true := fun j h => by rw [hB]; exact decide_eq_true h
  refine LB.Drawn.looseK B hBl 1 0 (by kernel_rfl) (by kernel_rfl) ?_
  have hsq := Stay.spare t 0
  have hnQ : (spare t 0).next = t.next + 0 := zH _ _
  have mlb : ∀ k, LA.lowV B (some (.pointer (some ⟨s.next, k, some 10⟩))) = true := fun k => LA.lowV_ptr (A := B) (i := s.next) (hBo _ htt.lt)
  have hIq := hIt.keeps hsq
  have hix := hIt.indexAddr (P := Try.prog) (k := .i64) (x := (i : Int)) Try.underlying32 szI (by omega) (by omega)
  rw [Int.toNat_natCast] at hix
  obtain ⟨q0, q1⟩ := efI hIt hlt
  obtain ⟨b1, b2, b3, bv, b4, b5, b6⟩ := VV (hD.rows.row i hlt)
  have hlv := hIq.loadPart (P := Try.prog) agO szO hlt (j := 1) (by omega)
  have lP := fun j => LA.lowV_plus hIt hBo hlt j
  have hoi := b3.keeps (hs0.trans (hsq.weaken hs0.next))
  have db8 : ∀ t', Stay t.next t t' -> zg Try.prog t' 32 (.pointer (some ⟨s.next, 8, some 10⟩)) = some iv := fun t' h => xO (htt.keeps h) htl
  simp -implicitDefEqProofs (disch := omega) only [allW, allR, allL, allB, Nat.sub_self, zc, Nat.reduceLT, Nat.reduceEqDiff, ↓reduceIte, hn, h1, h3, df4, db8 _ hsq, mlb, lP, hIq.self, hix, q1, hlv, hoi.self, yC]
  refine (kH m0 m1 m2 m3 m4 m5 D.items[i].2 F (spare t 0) _ hoi (hf.items _ (List.getElem_mem hlt))).mono ?_
  rintro _ t2 ⟨⟨u, rfl, hm⟩, k4⟩
  have k02 := hsq.trans (k4.weaken hsq.next)
  have hst2 := hst.trans (k02.weaken hst.next)
  have wB : ∀ b, zD (.bool b) (.bool b) = true := fun b => by cases b <;> rfl
  refine ⟨fun _ => LA.Stay.toA hBl (k4.weaken (by omega)), ?_⟩
  have hI2 := hIt.keeps k02
  have hln := hI2.loadField (P := Try.prog) zT hlt (j := 0) (by omega)
  rw [Nat.add_zero, b1] at hln
  cases u with
  | false =>
   simp -implicitDefEqProofs (disch := omega) only [allW, allR, allL, allB, Nat.reduceLT, Nat.reduceEqDiff, ↓reduceIte, allW, allR, Nat.reduceLT, Nat.reduceEqDiff, ↓reduceIte, undef, hn, wB]
   exact hQ _ _ _ (.inl ⟨rfl, hst2, by simp only [zf, hn], by simp only [za, ↓reduceIte]⟩)
  | true =>
  have hm := hm.1 rfl
  by_cases e1 : D.items[i].1 < 1
  ·simp -implicitDefEqProofs (disch := omega) only [allW, allR, allL, allB, Nat.reduceLT, Nat.reduceEqDiff, ↓reduceIte, allW, allR, Nat.reduceLT, Nat.reduceEqDiff, ↓reduceIte, undef, hn, h1, h3, wB, df4, db8 _ k02, mlb, lP, hI2.self, hix, q0, hln, yC, eq_true e1]
   exact hQ _ _ _ (.inl ⟨rfl, hst2, by simp only [zf, hn], by simp only [za, ↓reduceIte]⟩)
  by_cases e2 : (8388607 : Int) < D.items[i].1
  ·simp -implicitDefEqProofs (disch := omega) only [allW, allR, allL, allB, Nat.reduceLT, Nat.reduceEqDiff, ↓reduceIte, allW, allR, Nat.reduceLT, Nat.reduceEqDiff, ↓reduceIte, undef, hn, h1, h3, wB, df4, db8 _ k02, mlb, lP, hI2.self, hix, q0, hln, yC, eq_false e1, eq_true e2]
   exact hQ _ _ _ (.inl ⟨rfl, hst2, by simp only [zf, hn], by simp only [za, ↓reduceIte]⟩)
  have hOki : (∀ e', 0 < i -> D.items[i - 1]? = some e' -> e'.1 < D.items[i].1) -> Ok i := fun h => by
   rw [hOk]
   intro e he
   rw [List.getElem?_eq_getElem hlt] at he
   injection he with he
   subst he
   exact ⟨hm, by omega, by omega, h⟩
  have hnext : Ok i -> ∀ j, j < i + 1 -> Ok j := fun h j hj => by
   by_cases hji : j = i
   ·subst hji; exact h
   ·exact hP j (by omega)
  clear hOk
  by_cases hi0 : i = 0
  ·have d0 : ¬ (0 : Int) < (i : Int) := by omega
   simp -implicitDefEqProofs (disch := omega) only [allW, allR, allL, allB, Nat.reduceLT, Nat.reduceEqDiff, ↓reduceIte, allW, allR, Nat.reduceLT, Nat.reduceEqDiff, ↓reduceIte, undef, hn, h1, h3, wB, df4, db8 _ k02, mlb, lP, hI2.self, hix, q0, hln, yC, eq_false e1, eq_false e2, eq_false d0, zR]
   exact zz (D.items.length - (i + 1)) (by omega) ⟨i + 1, rfl, by omega, hnext (hOki (fun e' h => by omega)), hst2, by simp only [zf, hn], by simp only [za, ↓reduceIte, Nat.reduceEqDiff, h1], by simp only [za, ↓reduceIte]; rfl⟩
  have d0 : (0 : Int) < (i : Int) := by omega
  have hlt0 : i - 1 < D.items.length := by omega
  have iz := hIt.indexAddr (P := Try.prog) (k := .i64) (x := (i : Int) - 1) Try.underlying32 szI (by omega) (by omega)
  rw [show ((i : Int) - 1).toNat = i - 1 by omega] at iz
  obtain ⟨z0, _⟩ := efI hIt hlt0
  obtain ⟨zb, -⟩ := VV (hD.rows.row (i - 1) hlt0)
  have lz := hI2.loadField (P := Try.prog) zT hlt0 (j := 0) (by omega)
  rw [Nat.add_zero, zb] at lz
  have lZ := fun j => LA.lowV_plus hIt hBo hlt0 j
  by_cases e3 : D.items[i].1 ≤ (D.items[i - 1]'hlt0).1
  ·simp -implicitDefEqProofs (disch := omega) only [allW, allR, allL, allB, Nat.reduceLT, Nat.reduceEqDiff, ↓reduceIte, allW, allR, Nat.reduceLT, Nat.reduceEqDiff, ↓reduceIte, hn, h1, h3, wB, df4, db8 _ k02, mlb, lP, hI2.self, hix, q0, hln, yC, eq_false e1, eq_false e2, eq_true d0, iz, z0, lz, lZ, zR, eq_true e3]
   exact hQ _ _ _ (.inl ⟨rfl, hst2, by simp only [zf, hn], by simp only [za, ↓reduceIte]⟩)
  ·simp -implicitDefEqProofs (disch := omega) only [allW, allR, allL, allB, Nat.reduceLT, Nat.reduceEqDiff, ↓reduceIte, allW, allR, Nat.reduceLT, Nat.reduceEqDiff, ↓reduceIte, hn, h1, h3, wB, df4, db8 _ k02, mlb, lP, hI2.self, hix, q0, hln, yC, eq_false e1, eq_false e2, eq_true d0, iz, z0, lz, lZ, zR, eq_false e3]
   exact zz (D.items.length - (i + 1)) (by omega) ⟨i + 1, rfl, by omega, hnext (hOki (fun e' _ h => by
    rw [List.getElem?_eq_getElem hlt0] at h
    injection h with h
    rw [← h]; omega)), hst2, by simp only [zf, hn], by simp only [za, ↓reduceIte, Nat.reduceEqDiff, h1], by simp only [za, ↓reduceIte]; rfl⟩
 clear hn h0 f
 rintro z f t (⟨rfl, hst, hn, h2⟩ | ⟨rfl, hP, hst, hn⟩)
 ·simp -implicitDefEqProofs (disch := omega) only [allW]
  exact hno _ _ (hs3.trans (hst.weaken hs3.next)) hn h2
 simp -implicitDefEqProofs (disch := omega) only [allW, zj, zh, Nat.reduceLT, ↓reduceIte, hn, Try.results13]
 rw [hOk] at hP
 have hall : ∀ e ∈ D.items, MayO 28 e.2 ∧ 1 ≤ e.1 ∧ e.1 ≤ 8388607 := fun e he => by
  obtain ⟨j, hj, rfl⟩ := List.mem_iff_getElem.1 he
  have := hP j hj _ (List.getElem?_eq_getElem hj)
  exact ⟨this.1, this.2.1, this.2.2.1⟩
 have hstep : ∀ j (h : j + 1 < D.items.length), (D.items[j]'(by omega)).1 < D.items[j + 1].1 := fun j h => by
  have := (hP (j + 1) h _ (List.getElem?_eq_getElem h)).2.2.2 (D.items[j]'(by omega)) (by omega) (by rw [Nat.add_sub_cancel]; exact List.getElem?_eq_getElem _)
  exact this
 refine ⟨⟨true, rfl, fun _ => ⟨hsm, c7, hmay, fun e he => (hall e he).1, fun e he => (hall e he).2, List.pairwise_iff_getElem.2 (fun i j hi hj hij => ?_)⟩⟩, hs3.trans (hst.weaken hs3.next)⟩
 have : ∀ k, i + 1 + k < D.items.length -> ∀ h : i + 1 + k < D.items.length, (D.items[i]'hi).1 < (D.items[i + 1 + k]'h).1 := by
  intro k
  induction k with
  | zero => intro _ h; exact hstep i h
  | succ k ih =>
   intro _ h
   have h1 := ih (by omega) (by omega)
   have h2 := hstep (i + 1 + k) h
   exact Int.lt_trans h1 h2
 have h := this (j - (i + 1)) (by omega) (by omega)
 have e : i + 1 + (j - (i + 1)) = j := by omega
 simpa only [e] using h
end Go.Proofs.Ytokfoagohblkoaa
namespace Go.Cl
def yk (l : List (Int × O)) (n : Int) : O × Bool := match l.find? (fun e => e.1 == n) with
 | some e => (e.2, true)
 | none => (O.none, false)
theorem ZH {d : List (Int × O)} {k : Int} {i : Nat} (hi : i < d.length) (h1 : d[i].1 = k) (h2 : ∀ j (h : j < i), (d[j]'(Nat.lt_trans h hi)).1 ≠ k) : yk d k = (d[i].2, true) := by
 unfold yk
 have : d.find? (fun y => y.1 == k) = some d[i] := by
  rw [List.find?_eq_some_iff_getElem]
  refine ⟨by simpa using h1, i, hi, rfl, fun j hj => ?_⟩
  have := h2 j hj
  simpa using this
 rw [this]
theorem ZI {d : List (Int × O)} {k : Int} (h2 : ∀ j (h : j < d.length), d[j].1 ≠ k) : yk d k = (O.none, false) := by
 unfold yk
 have : d.find? (fun y => y.1 == k) = none := by
  rw [List.find?_eq_none]
  intro y hy
  obtain ⟨j, hj, rfl⟩ := List.mem_iff_getElem.1 hy
  simpa using h2 j hj
 rw [this]
def onI (D : List (Int × O)) (n : Int) (i : Nat) : Bool := match D[i]? with
 | some y => decide (y.1 = n)
 | none => false
theorem VW {D : List (Int × O)} {n : Int} {i : Nat} (h : i < D.length) : onI D n i = decide (D[i].1 = n) := by
 unfold onI; rw [List.getElem?_eq_getElem h]
end Go.Cl
namespace Go.Proofs.Ytokfoagohblkoaa
open Go.Cl Go.Lib
def Sx (s : ASt) (t : Bool) (v : Value) (s' : ASt) : Prop := v = .bool t ∧ Stay s.next s s'
def abd (s : ASt) (p : Nat -> Bool) (n : Nat) (v : Value) (s' : ASt) : Prop := (∃ r, v = .int .i64 r ∧ UJ p n r) ∧ Stay s.next s s'
set_option maxHeartbeats 4000000 in
theorem indexI {lib : zm} (hl : lib.at 59 = none) (g : Nat) (bs : List Value) (s : ASt) (x : Value) (n : Nat) (lx : List Value) (hx : Sees s 6 x n lx) (hnn : n ≤ 140737488351232) (p : Nat -> Bool)
  (h : ∀ i, i < n -> ∀ s' : ASt, Stay s.next s s' -> Runs Try.prog lib g (.agg ((lx.drop (i * 6)).take 6).toArray :: bs) s' (Sx s' (p i))) :
  Runs Try.prog lib 59 [x, .func (.func g) #[] bs.toArray] s (abd s p n) := by
 refine Runs.enter 19 Try.func59 rfl hl rfl rfl ?_
 intro f hn hf
 have h0 : f.get 0 = x := hf 0
 have h1 : f.get 1 = .func (.func g) #[] bs.toArray := hf 1
 clear hf
 simp -implicitDefEqProofs (disch := omega) only [allW, zc, Nat.reduceLT, Nat.reduceEqDiff, ↓reduceIte, hn, h0, hx.lenA Try.underlying32]
 refine yf.loopOut (fun z f s' => ∃ i : Nat, z = n - i ∧ i ≤ n ∧ (∀ j, j < i -> p j = false) ∧ Stay s.next s s' ∧ f.n = 19 ∧ f.get 0 = x ∧ f.get 1 = .func (.func g) #[] bs.toArray ∧ f.get 7 = .int .i64 (n : Nat) ∧ f.get 8 = .int .i64 (i : Nat))
  (fun z f s' => (z = .ret ∧ Stay s.next s s' ∧ f.n = 19 ∧ ∃ r : Nat, f.get 4 = .int .i64 (r : Nat) ∧ r < n ∧ p r = true ∧ ∀ j, j < r -> p j = false) ∨ (z = .exit 0 ∧ (∀ j, j < n -> p j = false) ∧ Stay s.next s s' ∧ f.n = 19))
  ⟨0, rfl, by omega, fun j h => by omega, Stay.refl _ _, by simp only [zf, hn], by simp only [za, ↓reduceIte, Nat.reduceEqDiff, h0], by simp only [za, ↓reduceIte, Nat.reduceEqDiff, h1], by simp only [za, ↓reduceIte, Nat.reduceEqDiff], by simp only [za, ↓reduceIte]; rfl⟩ ?_ ?_
 ·clear hn h0 h1 f
  rintro Q hQ z f s2 ⟨i, rfl, hi, hP, hst, hn, h0, h1, h7, h8⟩
  by_cases hlt : i < n
  rotate_left
  ·obtain rfl : i = n := by omega
   have d1 : ¬ ((i : Nat) : Int) < ((i : Nat) : Int) := by omega
   simp -implicitDefEqProofs (disch := omega) only [allW, Nat.reduceLT, ↓reduceIte, hn, h7, h8, eq_false d1]
   exact hQ _ _ _ (.inr ⟨rfl, hP, hst, by simp only [zf, hn]⟩)
  have d1 : ((i : Nat) : Int) < ((n : Nat) : Int) := by omega
  have hx2 := hx.keeps hst
  have hix := hx2.indexAddr (P := Try.prog) (k := .i64) (x := (i : Int)) Try.underlying32 szI (by omega) (by omega)
  rw [Int.toNat_natCast] at hix
  have hld := hx2.loadAgg (P := Try.prog) agI szI hlt
  have hrun := h i hlt s2 hst
  generalize (lx.drop (i * 6)).take 6 = xs at hld hrun
  simp -implicitDefEqProofs (disch := omega) only [allW, allR, zc, Nat.reduceLT, Nat.reduceEqDiff, ↓reduceIte, hn, h0, h1, h7, h8, eq_true d1, hix, hld]
  refine hrun.mono ?_
  rintro _ s3 ⟨rfl, hs3⟩
  have hss := hst.trans (hs3.weaken hst.next)
  cases hp : p i with
  | true =>
   simp -implicitDefEqProofs (disch := omega) only [allW, Nat.reduceLT, Nat.reduceEqDiff, ↓reduceIte, hn]
   exact hQ _ _ _ (.inl ⟨rfl, hss, by simp only [zf, hn], i, by simp only [za, ↓reduceIte], hlt, hp, hP⟩)
  | false =>
   simp -implicitDefEqProofs (disch := omega) only [allW, Nat.reduceLT, Nat.reduceEqDiff, ↓reduceIte, hn, h8, zR]
   exact zz (n - (i + 1)) (by omega) ⟨i + 1, rfl, by omega, wM hP hp, hss, by simp only [zf, hn], by simp only [za, ↓reduceIte, Nat.reduceEqDiff, h0], by simp only [za, ↓reduceIte, Nat.reduceEqDiff, h1], by simp only [za, ↓reduceIte, Nat.reduceEqDiff, h7], by simp only [za, ↓reduceIte]; rfl⟩
 rintro z f' s6 (⟨rfl, hs, hn', r, h4, hr1, hr2, hr3⟩ | ⟨rfl, hP, hs, hn'⟩)
 ·simp -implicitDefEqProofs (disch := omega) only [allW, zj, zh, Nat.reduceLT, ↓reduceIte, hn', h4, Try.results59]
  exact ⟨⟨_, rfl, .inr ⟨r, hr1, rfl, hr2, hr3⟩⟩, hs⟩
 simp -implicitDefEqProofs (disch := omega) only [allW, zj, zh, Nat.reduceLT, ↓reduceIte, hn', Try.results59]
 exact ⟨⟨_, rfl, .inl ⟨rfl, hP⟩⟩, hs⟩
theorem cloI {lib : zm} (hl : lib.at 60 = none) (F : Nat -> Prop) (s : ASt) (cs : List Value) (e : Int × O) (he : ItIs F s cs e) (j : Nat) (n : Int) (hj : zd s j [.int .i64 n]) :
  Runs Try.prog lib 60 [.agg cs.toArray, .pointer (some ⟨j, 0, some 2⟩)] s (Sx s (decide (e.1 = n))) := by
 have hcl := he.len
 obtain ⟨r, rfl, hr⟩ := he
 refine Runs.enter 8 Try.func60 rfl hl rfl rfl ?_
 intro f hn hf
 have h0 : f.get 0 = .agg (.int .i64 e.1 :: r).toArray := hf 0
 have h1 : f.get 1 = .pointer (some ⟨j, 0, some 2⟩) := hf 1
 clear hf
 simp -implicitDefEqProofs (disch := omega) only [allW, Nat.reduceLT, ↓reduceIte, hn, h0]
 refine ze ?_
 intro s1 ht1 hst1 hnx1
 have hj1 := hj.keeps hst1
 have q1 := hr.len
 have l1 : zg Try.prog s1 3 (.pointer (some ⟨s.next, 0, some 7⟩)) = some (.int .i64 e.1) := ht1.load zT (off := 0) (c := 7) (by simp [q1]) (by simp)
 have l2 : zg Try.prog s1 3 (.pointer (some ⟨j, 0, some 2⟩)) = some (.int .i64 n) := hj1.load zT (off := 0) (c := 2) rfl (by simp)
 simp -implicitDefEqProofs (disch := omega) only [allW, zj, zh, Nat.reduceLT, Nat.reduceEqDiff, Nat.reduceAdd, ↓reduceIte, hn, h1, hcl, if0, l1, l2, Try.results60]
 exact ⟨rfl, hst1⟩
def FindR (s : ASt) (x : O × Bool) (v : Value) (s' : ASt) : Prop := ∃ cs, v = .tuple #[.agg cs.toArray, .bool x.2] ∧ OIs (fun j => s.next ≤ j) s' cs x.1 ∧ Stay s.next s s'
set_option maxHeartbeats 4000000 in
theorem KJ {lib : zm} (hl : lib.at 40 = none) (hli : lib.at 59 = none) (hlc : lib.at 60 = none) (hcp : lib.at 42 = none) (hcl : lib.at 61 = none) (F : Nat -> Prop) (s : ASt) (D : Dc) (mv : Value) (tc : List Value) (iv : Value) (ic : List Value) (hD : ye F s mv tc iv ic D) (hs : yN D) (n : Int) :
  Runs Try.prog lib 40 [.agg (docC D mv tc iv).toArray, .int .i64 n] s (FindR s (yk D.items n)) := by
 have htl := hD.trailer.len
 have dl := xh (D := D) (mv := mv) (iv := iv) htl
 have hlen := hs.len
 refine Runs.enter 21 Try.func40 rfl hl rfl rfl ?_
 intro f hn hf
 have h0 : f.get 0 = .agg (docC D mv tc iv).toArray := hf 0
 have h1 : f.get 1 = .int .i64 n := hf 1
 clear hf
 simp -implicitDefEqProofs (disch := omega) only [allW, Nat.reduceLT, ↓reduceIte, hn, h0]
 refine ze ?_
 intro s1 ht1 hst1 hnx1
 have ht1 : zd s1 s.next (docC D mv tc iv) := ht1
 simp -implicitDefEqProofs (disch := omega) only [allW, Nat.reduceLT, Nat.reduceEqDiff, Nat.reduceAdd, ↓reduceIte, hn, h1, dl]
 refine ze ?_
 intro s2 ht2 hst2 hnx2
 have ht2 : zd s2 s1.next [.int .i64 n] := ht2
 simp -implicitDefEqProofs (disch := omega) only [allW, Nat.reduceLT, ↓reduceIte, hn, zO, plO]
 refine ze ?_
 intro s3 ht3 hst3 hnx3
 have n1 := hst1.next
 have n2 := hst2.next
 have n3 := hst3.next
 have hs2 : Stay s.next s s2 := hst1.trans (hst2.weaken n1)
 have hs3 : Stay s.next s s3 := hs2.trans (hst3.weaken (by omega))
 have ht13 := ht1.keeps (hst2.trans (hst3.weaken n2))
 have ht23 := ht2.keeps hst3
 have hI3 := hD.items.keeps hs3
 have hd6 : zG.length + 1 = 6 := rfl
 have hd2 : (Value.int IntKind.i64 n).cells.toList.length + 1 = 2 := rfl
 simp -implicitDefEqProofs (disch := omega) only [allW, allR, zc, Nat.reduceLT, Nat.reduceEqDiff, ↓reduceIte, hn, hd6, hd2, df4, xO ht13 htl, jJ]
 refine (indexI hli 60 [.pointer (some ⟨s1.next, 0, some 2⟩)] s3 iv D.items.length ic hI3 (by omega) (onI D.items n) (fun i hi s' hs' => ?_)).mono ?_
 ·rw [VW hi]
  exact cloI hlc F s' _ _ (jL.keeps (hD.rows.row i hi) (hs3.trans (hs'.weaken hs3.next))) s1.next n (ht23.keeps hs')
 rintro _ s4 ⟨⟨r, rfl, hr⟩, hs4⟩
 have hs04 : Stay s.next s s4 := hs3.trans (hs4.weaken hs3.next)
 have ht34 := ht3.keeps hs4
 have hs34n := hs4.next
 rcases hr with ⟨rfl, hall⟩ | ⟨k, hk, rfl, hk1, hk0⟩
 ·have e : yk D.items n = (O.none, false) := ZI (fun j h => by
   have := hall j h
   rw [VW h] at this
   exact of_decide_eq_false this)
  have d1 : (-1 : Int) < 0 := by omega
  simp -implicitDefEqProofs (disch := omega) only [allW, zn, Nat.reduceLT, Nat.reduceEqDiff, ↓reduceIte, hn, eq_true d1, bO0]
  refine zi szO (by decide) ht34 rfl rfl rfl rfl ?_
  intro s5 ht5 hnx5 hot5
  simp -implicitDefEqProofs (disch := omega) only [allW, zj, zh, Nat.reduceLT, Nat.reduceEqDiff, ↓reduceIte, hn, zd.loadO ht5 rfl, zy, Try.results40]
  rw [e]
  exact ⟨zG, rfl, OIs.none _ _, hs04.trans ⟨by omega, fun j hj => hot5 j (by omega)⟩⟩
 ·have e : yk D.items n = (D.items[k].2, true) := ZH hk (by rw [VW hk] at hk1; exact of_decide_eq_true hk1) (fun j h => by
   have := hk0 j h
   rw [VW (Nat.lt_trans h hk)] at this
   exact of_decide_eq_false this)
  have d1 : ¬ ((k : Nat) : Int) < 0 := by omega
  have hI4 := hD.items.keeps hs04
  have hix := hI4.indexAddr (P := Try.prog) (k := .i64) (x := (k : Int)) Try.underlying32 szI (by omega) (by omega)
  rw [Int.toNat_natCast] at hix
  obtain ⟨q0, q1⟩ := efI hI4 hk
  obtain ⟨b1, b2, b3, -⟩ := VV (hD.rows.row k hk)
  have hlv := hI4.loadPart (P := Try.prog) agO szO hk (j := 1) (by omega)
  have ht14 := ht13.keeps hs4
  simp -implicitDefEqProofs (disch := omega) only [allW, allR, zc, Nat.reduceLT, Nat.reduceEqDiff, ↓reduceIte, hn, eq_false d1, df4, xO ht14 htl, hix, q1, hlv]
  refine (JV hcp hcl _ D.items[k].2 (Nat.le_refl _) F s4 _ (b3.keeps hs04) (hs.items _ (List.getElem_mem hk))).mono ?_
  intro v s5 h5
  obtain ⟨cs', rfl, ho5, hst5⟩ := h5.is
  have hcl' := ho5.len
  have n5 := hst5.next
  simp -implicitDefEqProofs (disch := omega) only [allW, Nat.reduceLT, Nat.reduceEqDiff, ↓reduceIte, hn]
  refine zi szO (by decide) (ht34.keeps hst5) rfl rfl hcl' ho5.ok ?_
  intro s6 ht6 hnx6 hot6
  simp -implicitDefEqProofs (disch := omega) only [allW, zj, zh, Nat.reduceLT, Nat.reduceEqDiff, ↓reduceIte, hn, zd.loadO ht6 hcl', zy, Try.results40]
  rw [e]
  exact ⟨cs', rfl, (ho5.ofPut hnx6 hot6 (by omega)).mono (fun j hj => by have hj : _ ≤ j := hj; omega), (hs04.trans (hst5.weaken hs04.next)).trans ⟨by omega, fun j hj => hot6 j (by omega)⟩⟩
end Go.Proofs.Ytokfoagohblkoaa
namespace Go.Cl
def vQ (M M' : List Int) (i : Nat) : Prop := M'.length = M.length ∧ ∀ k, k < M.length -> M'[k]? = if k < i ∨ M.length - i ≤ k then M[M.length - 1 - k]? else M[k]?
theorem vQ.start (M : List Int) : vQ M M 0 := by
 refine ⟨rfl, fun k hk => ?_⟩
 rw [if_neg (by omega)]
theorem vQ.step {M M' : List Int} {i j : Nat} (h : vQ M M' i) (hj : j + 1 + i = M.length) (hij : i < j) (h1 : i < M'.length) (h2 : j < M'.length) : vQ M ((M'.set i M'[j]).set j M'[i]) (i + 1) := by
 obtain ⟨hl, h⟩ := h
 refine ⟨by simp [hl], fun k hk => ?_⟩
 rw [List.getElem?_set, List.getElem?_set]
 have hi' := h i (by omega)
 have hj' := h j (by omega)
 rw [if_neg (by omega), List.getElem?_eq_getElem h1] at hi'
 rw [if_neg (by omega), List.getElem?_eq_getElem h2] at hj'
 by_cases ejk : j = k
 ·subst ejk
  rw [if_pos rfl, if_pos (by simp; omega), if_pos (by omega), hi', show M.length - 1 - j = i by omega]
 ·rw [if_neg ejk]
  by_cases eik : i = k
  ·subst eik
   rw [if_pos rfl, if_pos (by omega), if_pos (by omega), hj', show M.length - 1 - i = j by omega]
  ·rw [if_neg eik, h k hk]
   by_cases c : k < i ∨ M.length - i ≤ k
   ·rw [if_pos c, if_pos (by omega)]
   ·rw [if_neg c, if_neg (by omega)]
theorem vQ.done {M M' : List Int} {i : Nat} (h : vQ M M' i) (hi : M.length ≤ i + 1 + i) : M' = M.reverse := by
 obtain ⟨hl, h⟩ := h
 refine List.ext_getElem? fun k => ?_
 by_cases hk : k < M.length
 ·rw [List.getElem?_reverse hk, h k hk]
  split
  ·rfl
  ·rw [show M.length - 1 - k = k by omega]
 ·rw [List.getElem?_eq_none (by omega), List.getElem?_eq_none (by simp; omega)]
theorem zA.refl (v : Value) (s : ASt) : zA v s s := ⟨Nat.le_refl _, fun _ _ _ => rfl⟩
theorem zA.comp {v : Value} {s s' s'' : ASt} (h : zA v s s') (k : zA v s' s'') : zA v s s'' := ⟨Nat.le_trans h.next k.next, fun i hi hn => (k.get i (Nat.lt_of_lt_of_le hi h.next) hn).trans (h.get i hi hn)⟩
end Go.Cl
namespace Go.Proofs.Ytokfoagohblkoaa
open Go.Cl Go.Lib
def Sy (F : Nat -> Prop) (s : ASt) (x : O × Bool) (v : Value) (s' : ASt) : Prop := ∃ cs, v = .tuple #[.agg cs.toArray, .bool x.2] ∧ OIs F s' cs x.1 ∧ Stay s.next s s'
set_option maxHeartbeats 4000000 in
theorem Js {lib : zm} (hl : lib.at 55 = none) (F : Nat -> Prop) (s : ASt) (D : Dc) (mv : Value) (tc : List Value) (iv : Value) (ic : List Value) (hD : ye F s mv tc iv ic D) (hs : yN D) (n : Int) :
  Runs Try.prog lib 55 [.agg (docC D mv tc iv).toArray, .int .i64 n] s (Sy F s (yk D.items n)) := by
 have htl := hD.trailer.len
 have dl := xh (D := D) (mv := mv) (iv := iv) htl
 have hlen := hs.len
 refine Runs.enter 29 Try.func55 rfl hl rfl rfl ?_
 intro f hn hf
 have h0 : f.get 0 = .agg (docC D mv tc iv).toArray := hf 0
 have h1 : f.get 1 = .int .i64 n := hf 1
 clear hf
 simp -implicitDefEqProofs (disch := omega) only [allW, Nat.reduceLT, ↓reduceIte, hn, h0]
 refine ze ?_
 intro s1 ht1 hst1 hnx1
 have ht1 : zd s1 s.next (docC D mv tc iv) := ht1
 simp -implicitDefEqProofs (disch := omega) only [allW, Nat.reduceLT, Nat.reduceAdd, ↓reduceIte, hn, dl, zO, plO]
 refine ze ?_
 intro s2 ht2 hst2 hnx2
 have hd6 : zG.length + 1 = 6 := rfl
 simp -implicitDefEqProofs (disch := omega) only [allW, Nat.reduceLT, ↓reduceIte, hn, hd6]
 have n1 := hst1.next
 have n2 := hst2.next
 have hs2 : Stay s.next s s2 := hst1.trans (hst2.weaken n1)
 have ht12 := ht1.keeps hst2
 refine yf.loopOut (fun z f t => ∃ i : Nat, z = D.items.length - i ∧ i ≤ D.items.length ∧ (∀ j (h : j < D.items.length), j < i -> D.items[j].1 ≠ n) ∧ Stay s2.next s2 t ∧ f.n = 29 ∧ f.get 1 = .int .i64 n ∧ f.get 2 = .pointer (some ⟨s.next, 0, some 10⟩) ∧ f.get 4 = .pointer (some ⟨s1.next, 0, some 6⟩) ∧ f.get 6 = .int .i64 (i : Nat))
  (fun z f t => (z = .ret ∧ ∃ (k : Nat) (h : k < D.items.length) (cs : List Value), D.items[k].1 = n ∧ (∀ j (h : j < D.items.length), j < k -> D.items[j].1 ≠ n) ∧ zd t s1.next cs ∧ OIs F t cs D.items[k].2 ∧ Stay s.next s t ∧ f.n = 29 ∧ f.get 4 = .pointer (some ⟨s1.next, 0, some 6⟩) ∧ f.get 5 = .bool true) ∨
   (z = .exit 0 ∧ (∀ j (h : j < D.items.length), D.items[j].1 ≠ n) ∧ Stay s2.next s2 t ∧ f.n = 29 ∧ f.get 4 = .pointer (some ⟨s1.next, 0, some 6⟩)))
  ⟨0, rfl, by omega, fun j _ h => by omega, Stay.refl _ _, by simp only [zf, hn], by simp only [za, ↓reduceIte, Nat.reduceEqDiff, h1], by simp only [za, ↓reduceIte, Nat.reduceEqDiff], by simp only [za, ↓reduceIte, Nat.reduceEqDiff], by simp only [za, ↓reduceIte]; rfl⟩ ?_ ?_
 ·clear hn h0 h1 f
  rintro Q hQ z f t ⟨i, rfl, hi, hP, hst, hn, h1, h2, h4, h6⟩
  have hs0 : Stay s.next s t := hs2.trans (hst.weaken hs2.next)
  have hIt := hD.items.keeps hs0
  have htt := ht12.keeps hst
  by_cases hlt : i < D.items.length
  rotate_left
  ·obtain rfl : i = D.items.length := by omega
   have d1 : ¬ ((D.items.length : Nat) : Int) < ((D.items.length : Nat) : Int) := by omega
   simp -implicitDefEqProofs (disch := omega) only [allW, allR, zc, Nat.reduceLT, Nat.reduceEqDiff, ↓reduceIte, hn, h2, h6, df4, xO htt htl, hIt.lenA Try.underlying32, eq_false d1]
   exact hQ _ _ _ (.inr ⟨rfl, fun j h => hP j h h, hst, by simp only [zf, hn], by simp only [za, ↓reduceIte, Nat.reduceEqDiff, h4]⟩)
  have d1 : (i : Int) < (D.items.length : Int) := by omega
  have hix := hIt.indexAddr (P := Try.prog) (k := .i64) (x := (i : Int)) Try.underlying32 szI (by omega) (by omega)
  rw [Int.toNat_natCast] at hix
  obtain ⟨q0, q1⟩ := efI hIt hlt
  obtain ⟨b1, b2, b3, -⟩ := VV (hD.rows.row i hlt)
  have hlv := hIt.loadPart (P := Try.prog) agO szO hlt (j := 1) (by omega)
  have hln := hIt.loadField (P := Try.prog) zT hlt (j := 0) (by omega)
  rw [Nat.add_zero, b1] at hln
  by_cases he : D.items[i].1 = n
  ·simp -implicitDefEqProofs (disch := omega) only [allW, allR, zc, Nat.reduceLT, Nat.reduceEqDiff, ↓reduceIte, hn, h1, h2, h4, h6, df4, xO htt htl, hIt.lenA Try.underlying32, eq_true d1, hix, q0, q1, hlv, hln, eq_true he]
   have ho := b3.keeps hs0
   refine zi szO (by decide) (ht2.keeps hst) rfl rfl ho.len ho.ok ?_
   intro t2 ht2' hnx hot
   simp -implicitDefEqProofs (disch := omega) only [allW, Nat.reduceLT, ↓reduceIte, hn]
   exact hQ _ _ _ (.inl ⟨rfl, i, hlt, _, he, hP, ht2', b3.keeps (hs0.trans ⟨by omega, fun j hj => hot j (by omega)⟩), hs0.trans ⟨by omega, fun j hj => hot j (by omega)⟩, by simp only [zf, hn], by simp only [za, ↓reduceIte, Nat.reduceEqDiff, h4], by simp only [za, ↓reduceIte]⟩)
  ·simp -implicitDefEqProofs (disch := omega) only [allW, allR, zc, Nat.reduceLT, Nat.reduceEqDiff, ↓reduceIte, hn, h1, h2, h6, df4, xO htt htl, hIt.lenA Try.underlying32, eq_true d1, hix, q0, hln, eq_false he, zR]
   exact zz (D.items.length - (i + 1)) (by omega) ⟨i + 1, rfl, by omega, fun j h hj => by
    by_cases e : j = i
    ·subst e; exact he
    ·exact hP j h (by omega), hst, by simp only [zf, hn], by simp only [za, ↓reduceIte, Nat.reduceEqDiff, h1], by simp only [za, ↓reduceIte, Nat.reduceEqDiff, h2], by simp only [za, ↓reduceIte, Nat.reduceEqDiff, h4], by simp only [za, ↓reduceIte]; rfl⟩
 clear hn h0 h1 f
 rintro z f t (⟨rfl, k, hk, cs, he, hP, ht, ho, hst, hn, h4, h5⟩ | ⟨rfl, hP, hst, hn, h4⟩)
 ·have e : yk D.items n = (D.items[k].2, true) := ZH hk he (fun j h => hP j (Nat.lt_trans h hk) h)
  simp -implicitDefEqProofs (disch := omega) only [allW, zj, zh, Nat.reduceLT, ↓reduceIte, hn, h4, h5, zd.loadO ht ho.len, zy, Try.results55]
  rw [e]
  exact ⟨cs, rfl, ho, hst⟩
 ·have e : yk D.items n = (O.none, false) := ZI hP
  simp -implicitDefEqProofs (disch := omega) only [allW, zn, Nat.reduceLT, Nat.reduceEqDiff, ↓reduceIte, hn, h4, bO0]
  refine zi szO (by decide) (ht2.keeps hst) rfl rfl rfl rfl ?_
  intro s5 ht5 hnx5 hot5
  simp -implicitDefEqProofs (disch := omega) only [allW, zj, zh, Nat.reduceLT, Nat.reduceEqDiff, ↓reduceIte, hn, h4, zd.loadO ht5 rfl, zy, Try.results55]
  rw [e]
  exact ⟨zG, rfl, OIs.none _ _, (hs2.trans (hst.weaken hs2.next)).trans ⟨by have := hst.next; omega, fun j hj => hot5 j (by omega)⟩⟩
end Go.Proofs.Ytokfoagohblkoaa