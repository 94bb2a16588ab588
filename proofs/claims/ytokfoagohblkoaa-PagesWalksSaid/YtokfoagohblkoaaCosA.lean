import Derived.Test.YtokfoagohblkoaaObjB
import Derived.Test.YtokfoagohblkoaaCopy
import Derived.Test.YtokfoagohblkoaaLooseB
import Derived.Test.YtokfoagohblkoaaCopyW
import Derived.Test.YtokfoagohblkoaaStr
import Derived.Test.YtokfoagohblkoaaLibR
set_option linter.unusedSimpArgs false
set_option linter.unusedVariables false
set_option maxRecDepth 100000
namespace Go.Proofs.Ytokfoagohblkoaa
open Go.Cl
theorem szO : zB Try.prog 31 = some 5 := by kernel_rfl
theorem agO : yc Try.prog 31 = some true := by kernel_rfl
theorem zO : yj Try.prog 31 = some (.agg zG.toArray) := by kernel_rfl
theorem plO : yn (.agg zG.toArray) = true := by kernel_rfl
theorem byO : xV Try.prog 31 = some 88 := by kernel_rfl
theorem szE : zB Try.prog 70 = some 6 := by kernel_rfl
theorem agE : yc Try.prog 70 = some true := by kernel_rfl
theorem byE : xV Try.prog 70 = some 104 := by kernel_rfl
def qh : List Value := .string ⟨#[]⟩ :: zG
theorem zE : yj Try.prog 70 = some (.agg qh.toArray) := by kernel_rfl
theorem plE : yn (.agg qh.toArray) = true := by kernel_rfl
theorem wO : zB Try.prog 2 = some 1 := by kernel_rfl
theorem wH : yc Try.prog 2 = some false := by kernel_rfl
theorem jf : zB Try.prog 9 = some 1 := by kernel_rfl
theorem xy : yc Try.prog 9 = some false := by kernel_rfl
theorem szLs : zB Try.prog 28 = some 1 := by kernel_rfl
theorem agLs : yc Try.prog 28 = some false := by kernel_rfl
theorem szDs : zB Try.prog 29 = some 1 := by kernel_rfl
theorem agDs : yc Try.prog 29 = some false := by kernel_rfl
theorem of0 (i o c : Nat) : zk Try.prog 31 (.pointer (some ⟨i, o, some c⟩)) 0 = some (.pointer (some ⟨i, o + 0, some c⟩)) := by
 unfold zk; rw [Try.underlying31]; simp [yP]
theorem of1 (i o c : Nat) : zk Try.prog 31 (.pointer (some ⟨i, o, some c⟩)) 1 = some (.pointer (some ⟨i, o + 1, some c⟩)) := by
 unfold zk; rw [Try.underlying31]; simp [wO]
theorem of2 (i o c : Nat) : zk Try.prog 31 (.pointer (some ⟨i, o, some c⟩)) 2 = some (.pointer (some ⟨i, o + 2, some c⟩)) := by
 unfold zk; rw [Try.underlying31]; simp [szSl]
theorem of3 (i o c : Nat) : zk Try.prog 31 (.pointer (some ⟨i, o, some c⟩)) 3 = some (.pointer (some ⟨i, o + 3, some c⟩)) := by
 unfold zk; rw [Try.underlying31]; simp [szLs]
theorem of4 (i o c : Nat) : zk Try.prog 31 (.pointer (some ⟨i, o, some c⟩)) 4 = some (.pointer (some ⟨i, o + 4, some c⟩)) := by
 unfold zk; rw [Try.underlying31]; simp [szDs]
theorem efE {s : ASt} {v : Value} {n : Nat} {l : List Value} (h : Sees s 6 v n l) {k : Nat} (hk : k < n) : zk Try.prog 70 (zL 6 v k) 0 = some (yL (zL 6 v k) 0) ∧ zk Try.prog 70 (zL 6 v k) 1 = some (yL (zL 6 v k) 1) := by
 obtain ⟨i, off, c, e, _⟩ := h.cells hk
 rw [e]
 refine ⟨?_, ?_⟩ <;> · unfold zk; rw [Try.underlying70]; simp [jf, szO, yL]
theorem bO3 (k n : Int) {b : Value} (hb : b.cells.toList = [b]) : yE Try.prog 31 [(0, .int .i64 k), (1, .int .i64 n), (2, b)] = some (.agg #[.int .i64 k, .int .i64 n, b, .slice none 0 0, .slice none 0 0]) := by
 unfold yE; rw [Try.underlying31]
 have hz : yj Try.prog 31 = some (.agg #[.int .i64 0, .int .i64 0, .slice none 0 0, .slice none 0 0, .slice none 0 0]) := by kernel_rfl
 rw [hz]
 have ci : ∀ k n, (Value.int k n).cells = #[.int k n] := fun _ _ => rfl
 simp [yP, wO, szSl, szLs, szDs, yn, wR, xQ, vU, yU, yV, ci, hb]
theorem bE (a : List UInt8) {cs : List Value} (hc : cs.length = 5) : yE Try.prog 70 [(0, .string ⟨a.toArray⟩), (1, .agg cs.toArray)] = some (.agg (.string ⟨a.toArray⟩ :: cs).toArray) := by
 unfold yE; rw [Try.underlying70]
 have hz : yj Try.prog 70 = some (.agg #[.string ⟨#[]⟩, .int .i64 0, .int .i64 0, .slice none 0 0, .slice none 0 0, .slice none 0 0]) := by kernel_rfl
 rw [hz]
 have cs' : ∀ b, (Value.string b).cells = #[.string b] := fun _ => rfl
 match cs, hc with
 | [a, b, c, d, e], _ => simp [jf, szO, yn, wR, xQ, vU, yU, yV, cs']
def NewO (s : ASt) (o : O) (v : Value) (s' : ASt) : Prop := ∃ cs, v = .agg cs.toArray ∧ OIs (fun j => s.next ≤ j) s' cs o ∧ Stay s.next s s'
set_option maxHeartbeats 8000000 in
theorem jI {lib : zm} (hl : lib.at 29 = none) (hl1 : lib.at 49 = none) : ∀ (N : Nat) (o : O), SizeOf.sizeOf o ≤ N -> ∀ (F : Nat -> Prop) (s : ASt) (cs : List Value), OIs F s cs o -> zu o ->
  Runs Try.prog lib 29 [.agg cs.toArray] s (NewO s o) := by
 intro N
 induction N with
 | zero => intro o h; cases o; simp at h
 | succ N ih =>
 intro o hN F s cs ho hsm
 cases o with
 | mk kind num b l d =>
 obtain ⟨bv, lv, dv, lc, dc, rfl, hb, hL, hD, fb, fl, fd, rl, rd⟩ := ho.parts
 cases hsm with
 | mk hb1 hl2 hd1 hK1 hL1 hD1 =>
 refine Runs.enter 59 Try.func29 rfl hl rfl rfl ?_
 intro f hn hf
 have h0 : f.get 0 = .agg #[.int .i64 kind, .int .i64 num, bv, lv, dv] := hf 0
 clear hf
 simp -implicitDefEqProofs (disch := omega) only [allW, Nat.reduceLT, ↓reduceIte, hn, h0]
 refine ze ?_
 intro s1 ht1 hst1 hnx1
 have hd6 : zG.length + 1 = 6 := rfl
 simp -implicitDefEqProofs (disch := omega) only [allW, Nat.reduceLT, Nat.reduceAdd, ↓reduceIte, hn, List.length_cons, List.length_nil, zO, plO]
 refine ze ?_
 intro s2 ht2 hst2 hnx2
 have ht12 := ht1.keeps hst2
 have hs2 : Stay s.next s s2 := hst1.trans (hst2.weaken (by omega))
 have hb2 := hb.keeps hs2
 simp -implicitDefEqProofs (disch := omega) only [allW, Nat.reduceLT, ↓reduceIte, hn, hd6]
 obtain ⟨A, hA⟩ : ∃ A : Nat -> Bool, A = fun j => decide (j < s2.next) := ⟨_, rfl⟩
 have hAl : ∀ j, A j = true -> j < s2.next := by
  intro j h
  rw [hA] at h
  exact of_decide_eq_true h
 have hAo : ∀ j, j < s2.next -> A j = true := fun j h => by rw [hA]; exact decide_eq_true h
 refine LB.Drawn.looseK A hAl 1 1 (by kernel_rfl) (by kernel_rfl) ?_
 have hsp := Stay.spare s2 1
 have hnT : (spare s2 1).next = s2.next + 1 := zH _ _
 have ht13 := ht12.keeps hsp
 have hlow : ∀ k, LA.lowV A (some (.pointer (some ⟨s.next, k, some 6⟩))) = true := fun k => LA.lowV_ptr (A := A) (i := s.next) (hAo _ ht12.lt)
 have l0 : zg Try.prog (spare s2 1) 3 (.pointer (some ⟨s.next, 0, some 6⟩)) = some (.int .i64 kind) := ht13.load zT (off := 0) (c := 6) rfl (by simp)
 have l1 : zg Try.prog (spare s2 1) 2 (.pointer (some ⟨s.next, 1, some 6⟩)) = some (.int .i64 num) := ht13.load wH (off := 1) (c := 6) rfl (by simp)
 have l2 : zg Try.prog (spare s2 1) 27 (.pointer (some ⟨s.next, 2, some 6⟩)) = some bv := ht13.load agSl (off := 2) (c := 6) rfl (by simp)
 simp -implicitDefEqProofs (disch := omega) only [allW, allR, allL, allB, Nat.sub_self, zc, zn, Nat.reduceLT, Nat.reduceEqDiff, ↓reduceIte, hn, of0, of1, of2, hlow, l0, l1, l2, hb2.self]
 refine (aae hl1 (spare s2 1) bv b (hb2.keeps hsp) (by omega)).mono ?_
 rintro bv' s3 ⟨hbo, hbF, hst3⟩
 have hn3 := hst3.next
 refine ⟨fun _ => LA.Stay.toA hAl (hst3.weaken (by omega)), ?_⟩
 have hself3 : zD (.agg #[.int .i64 kind, .int .i64 num, bv', .slice none 0 0, .slice none 0 0]) (.agg #[.int .i64 kind, .int .i64 num, bv', .slice none 0 0, .slice none 0 0]) = true := ZC (by simp [zV]) (by simp [zV]) hbo.sees.self1 (by simp [zV]) (by simp [zV])
 simp -implicitDefEqProofs (disch := omega) only [allW, allB, Nat.reduceLT, ↓reduceIte, hn, bO3 kind num hbo.sees.cell1, hself3, zO, plO]
 refine LB.smake_newPtr (by omega) ?_
 intro s4 ht4 hnx4 hot4
 simp -implicitDefEqProofs (disch := omega) only [allW, allB, Nat.reduceLT, Nat.reduceEqDiff, ↓reduceIte, hn, hd6]
 have hvok := hbo.sees.okCell
 refine LB.sstep_storeAll szO (by decide) ht4 rfl rfl rfl (by simp only [List.all_cons, List.all_nil, hvok]; rfl) (fun h => absurd rfl h) ?_
 intro s5 ht5 hnx5 hot5
 have ht5 : zd s5 s2.next [.int .i64 kind, .int .i64 num, bv', .slice none 0 0, .slice none 0 0] := ht5
 have hs25 : Stay s2.next s2 s5 := ((hsp.trans (hst3.weaken (by omega))).trans ⟨by omega, fun j hj => hot4 j (by omega)⟩).trans ⟨by omega, fun j hj => hot5 j (by omega)⟩
 have hs5 : Stay s.next s s5 := hs2.trans (hs25.weaken (by omega))
 have hbo5 : Own s5 1 bv' b.length (zF b) := (hbo.ofPut hnx4 hot4 (fun e => by have := hbF _ e; omega)).ofPut hnx5 hot5 (fun e => by have := hbF _ e; omega)
 have ht15 := ht12.keeps hs25
 have ht25 := ht2.keeps hs25
 simp -implicitDefEqProofs (disch := omega) only [allW, allB, Nat.reduceSub, Nat.reduceLT, ↓reduceIte, hn]
 obtain ⟨FF, hFF⟩ : ∃ FF : Value -> Nat -> Prop, FF = fun v j => s2.next + 1 ≤ j ∧ ¬ j = s2.next ∧ idOf v ≠ some j := ⟨_, rfl⟩
 have hn2 := hst2.next
 have hn25 := hs25.next
 have ht5lt : s2.next < s5.next := ht5.lt
 refine yf.loopOut (fun z f s6 => ∃ (i : Nat) (y : Value) (LC : List Value), z = l.length - i ∧ i ≤ l.length ∧ Own s6 5 y i LC ∧ zt OIs 5 (FF y) s6 (l.take i) LC ∧ yb s5.next y ∧ Sees s6 1 bv' b.length (zF b) ∧ Foot (FF y) bv' ∧ zd s6 s.next [.int .i64 kind, .int .i64 num, bv, lv, dv] ∧ zd s6 s1.next zG ∧ zd s6 s2.next [.int .i64 kind, .int .i64 num, bv', y, .slice none 0 0] ∧ Stay s.next s s6 ∧ s5.next ≤ s6.next ∧ f.n = 59 ∧ f.get 1 = .pointer (some ⟨s.next, 0, some 6⟩) ∧ f.get 2 = .pointer (some ⟨s1.next, 0, some 6⟩) ∧ f.get 3 = .pointer (some ⟨s2.next, 0, some 6⟩) ∧ f.get 4 = .int .i64 (i : Nat))
  (fun z f s6 => z = .exit 0 ∧ ∃ (y : Value) (LC : List Value), Own s6 5 y l.length LC ∧ zt OIs 5 (FF y) s6 l LC ∧ yb s5.next y ∧ Sees s6 1 bv' b.length (zF b) ∧ Foot (FF y) bv' ∧ zd s6 s.next [.int .i64 kind, .int .i64 num, bv, lv, dv] ∧ zd s6 s1.next zG ∧ zd s6 s2.next [.int .i64 kind, .int .i64 num, bv', y, .slice none 0 0] ∧ Stay s.next s s6 ∧ s5.next ≤ s6.next ∧ f.n = 59 ∧ f.get 1 = .pointer (some ⟨s.next, 0, some 6⟩) ∧ f.get 2 = .pointer (some ⟨s1.next, 0, some 6⟩) ∧ f.get 3 = .pointer (some ⟨s2.next, 0, some 6⟩))
  ⟨0, .slice none 0 0, [], rfl, by omega, .nil, by rw [List.take_zero]; exact zt.nil, yb.nil _, hbo5.sees, Foot.of_id (fun j hj => by rw [hFF]; have := hbF j hj; exact ⟨by omega, by omega, fun e => by cases e⟩), ht15, ht25, ht5, hs5, Nat.le_refl _, by simp only [zf, hn], by simp only [za, ↓reduceIte, Nat.reduceEqDiff], by simp only [za, ↓reduceIte, Nat.reduceEqDiff], by simp only [za, ↓reduceIte, Nat.reduceEqDiff], by simp only [za, ↓reduceIte]; rfl⟩ ?_ ?_
 ·clear hn h0 f hself3 ht4 ht5 hot4 hot5 hbo hbo5 ht15 ht25 l0 l1 l2 hlow ht13 hAl hAo hA A
  rintro Q hQ z f s6 ⟨i, y, LC, rfl, hi, hy, hR, hyF, hbv, hbf, hb1', hb2', hb3', hst6, hn6, hn, h1, h2, h3, h4⟩
  have hL6 := hL.keeps hst6
  have l6 : zg Try.prog s6 28 (.pointer (some ⟨s.next, 3, some 6⟩)) = some lv := hb1'.load agLs (off := 3) (c := 6) rfl (by simp)
  by_cases hlt : i < l.length
  rotate_left
  ·obtain rfl : i = l.length := by omega
   rw [List.take_length] at hR
   have d1 : ¬ ((l.length : Nat) : Int) < ((l.length : Nat) : Int) := by omega
   simp -implicitDefEqProofs (disch := omega) only [allW, zc, Nat.reduceLT, Nat.reduceEqDiff, ↓reduceIte, hn, h1, h4, of3, l6, hL6.lenA Try.underlying28, eq_false d1]
   refine hQ _ _ _ ⟨rfl, y, LC, hy, hR, hyF, hbv, hbf, hb1', hb2', hb3', hst6, hn6, by simp only [zf, hn], by simp only [za, ↓reduceIte, Nat.reduceEqDiff, h1], by simp only [za, ↓reduceIte, Nat.reduceEqDiff, h2], by simp only [za, ↓reduceIte, Nat.reduceEqDiff, h3]⟩
  have hy2 : idOf y ≠ some s2.next := fun e => by have := hyF _ e; have := hb3'.lt; have := ht5lt; omega
  have d1 : (i : Int) < (l.length : Int) := by omega
  simp -implicitDefEqProofs (disch := omega) only [allW, zc, Nat.reduceLT, Nat.reduceEqDiff, ↓reduceIte, hn, h1, h4, of3, l6, hL6.lenA Try.underlying28, eq_true d1]
  obtain ⟨A, hA⟩ : ∃ A : Nat -> Bool, A = fun j => decide (j < s6.next) := ⟨_, rfl⟩
  have hAl : ∀ j, A j = true -> j < s6.next := by
   intro j h
   rw [hA] at h
   exact of_decide_eq_true h
  have hAo : ∀ j, j < s6.next -> A j = true := fun j h => by rw [hA]; exact decide_eq_true h
  refine LB.Drawn.looseK A hAl 1 1 (by kernel_rfl) (by kernel_rfl) ?_
  have hsp := Stay.spare s6 1
  have hnT : (spare s6 1).next = s6.next + 1 := zH _ _
  have hlow1 : ∀ k, LA.lowV A (some (.pointer (some ⟨s.next, k, some 6⟩))) = true := fun k => LA.lowV_ptr (A := A) (i := s.next) (hAo _ hb1'.lt)
  have hlow3 : ∀ k, LA.lowV A (some (.pointer (some ⟨s2.next, k, some 6⟩))) = true := fun k => LA.lowV_ptr (A := A) (i := s2.next) (hAo _ hb3'.lt)
  have l7 : zg Try.prog (spare s6 1) 28 (.pointer (some ⟨s.next, 3, some 6⟩)) = some lv := (hb1'.keeps hsp).load agLs (off := 3) (c := 6) rfl (by simp)
  have l8 : zg Try.prog (spare s6 1) 28 (.pointer (some ⟨s2.next, 3, some 6⟩)) = some y := (hb3'.keeps hsp).load agLs (off := 3) (c := 6) rfl (by simp)
  have hL7 := hL6.keeps hsp
  have hix := hL7.indexAddr (P := Try.prog) (k := .i64) (x := (i : Int)) Try.underlying28 szO (by omega) (by omega)
  rw [Int.toNat_natCast] at hix
  have hld := hL7.loadAgg (P := Try.prog) agO szO hlt
  have hoi := ((rl.row i hlt).keeps hst6).keeps hsp
  simp -implicitDefEqProofs (disch := omega) only [allW, allR, allL, allB, Nat.sub_self, zc, zn, Nat.reduceLT, Nat.reduceEqDiff, ↓reduceIte, hn, h1, h3, h4, of3, hlow1, hlow3, l7, l8, hL7.self, hy.self, hix, hld, LA.lowV_elemOld hL6 hAo hlt, hoi.self]
  refine (ih l[i] (by have := O.items_lt (k := kind) (n := num) (b := b) (l := l) (d := d) (List.getElem_mem hlt); omega) F (spare s6 1) _ hoi (hL1 _ (List.getElem_mem hlt))).mono ?_
  rintro _ s7 ⟨cs7, rfl, ho7, hst7⟩
  have hn7 := hst7.next
  refine ⟨fun _ => LA.Stay.toA hAl (hst7.weaken (by omega)), ?_⟩
  have hl7 := ho7.len
  simp -implicitDefEqProofs (disch := omega) only [yS (cs := cs7.toArray) Try.underlying28 szO zO plO rfl hl7 (by decide)]
  refine LB.smake_newSlice (base := s6.next) hl7 (by omega) (Nat.le_refl _) ?_
  intro bs s8 hbs hid hst8 hnx8 hot8
  have hst68 : Stay s6.next s6 s8 := (hsp.trans (hst7.weaken (by omega))).trans hst8
  have hn8 := hst68.next
  have ho8 : OIs (FF y) s8 cs7 l[i] := by
   refine (ho7.turns (u := .pointer (some ⟨s6.next, 0, none⟩)) (zA.ofPut hnx8 hot8) (fun j hj e => ?_)).mono (fun j hj => ?_)
   ·have e : some s6.next = some j := e
    injection e with e; omega
   ·rw [hFF]; exact ⟨by have := hst6.next; omega, by omega, fun e => by have := hy.idlt _ e; omega⟩
  simp -implicitDefEqProofs (disch := omega) only [allW, allB, zc, Nat.reduceLT, Nat.reduceEqDiff, ↓reduceIte, hn]
  refine LB.sstep_append Try.underlying28 Try.underlying28 (.inl ⟨_, rfl⟩) szO byO zO rfl (hy.keeps hst68) hbs.sees.src hl7 (by decide) ho8.ok (by omega) (by omega) (base := s5.next) hyF (by omega) (fun h => absurd rfl h) (fun j hj => by have := hAl j hj; omega) ?_
  intro y' s9 hy9 hF9 hut9 hor
  have hn9 := hut9.next
  have hR8 := hR.keeps yG hst68
  rw [hFF] at hR8 ho8
  have hR9 := hR8.grow yG hl7 ho8 hut9 hor
  have hbv9 : Sees s9 1 bv' b.length (zF b) ∧ Foot (FF y') bv' := by
   have hb8 := hbv.keeps hst68
   have hf8 := hbf.below hb8
   refine ⟨hb8.turnsF hbf hut9 (fun j hj => by rw [hFF] at hj; exact hj.2.2), hf8.mono (fun j hj => ?_)⟩
   rw [hFF] at hj ⊢
   refine ⟨hj.1.1, hj.1.2.1, fun e => ?_⟩
   rcases hor with h1 | ⟨q, h1, h2⟩
   ·exact hj.1.2.2 (by rw [← h1]; exact e)
   ·rw [h1] at e; injection e with e; have := hj.2; omega
  have hy92 : idOf y' ≠ some s2.next := fun e => by
   rcases hor with h1 | ⟨q, h1, h2⟩
   ·exact hy2 (by rw [← h1]; exact e)
   ·rw [h1] at e; injection e with e; have := hb3'.lt; omega
  simp -implicitDefEqProofs (disch := omega) only [allW, allL, allB, Nat.reduceSub, Nat.reduceLT, Nat.reduceEqDiff, ↓reduceIte, hn, h3, of3]
  refine LB.sstep_storeN szLs (by decide) ((hb3'.keeps hst68).turns hut9 hy2) (off := 3) (c := 6) rfl (vs := [y']) hy9.sees.cell1 rfl (by simp) (by simp [hy9.sees.okCell]) (fun h => absurd rfl h) ?_
  intro sa hta hnxa hota
  have hta : zd sa s2.next [.int .i64 kind, .int .i64 num, bv', y', .slice none 0 0] := hta
  have hua : zA (.pointer (some ⟨s2.next, 0, none⟩)) s9 sa := zA.ofPut hnxa hota
  have hnea : ∀ v j, FF v j -> idOf (.pointer (some ⟨s2.next, 0, none⟩)) ≠ some j := fun v j hj e => by
   have e : some s2.next = some j := e
   injection e with e
   rw [hFF] at hj; exact hj.2.1 e.symm
  rw [show (fun j => s2.next + 1 ≤ j ∧ ¬ j = s2.next ∧ idOf y' ≠ some j) = FF y' by rw [hFF]] at hR9
  simp -implicitDefEqProofs (disch := omega) only [allW, allB, Nat.reduceSub, Nat.reduceLT, Nat.reduceEqDiff, ↓reduceIte, hn, h4, zR]
  refine zz (l.length - (i + 1)) (by omega) ⟨i + 1, y', LC ++ cs7, rfl, by omega, hy9.ofPut hnxa hota hy92, ?_, hF9, hbv9.1.turnsF hbv9.2 hua (hnea y'), hbv9.2, ((hb1'.keeps hst68).turns hut9 (fun e => by have := hyF _ e; have := hs5.next; have := ht5lt; omega)).ofPut hnxa hota (by omega), ((hb2'.keeps hst68).turns hut9 (fun e => by have := hyF _ e; have := ht5lt; omega)).ofPut hnxa hota (by omega), hta, ?_, by omega, by simp only [zf, hn], by simp only [za, ↓reduceIte, Nat.reduceEqDiff, h1], by simp only [za, ↓reduceIte, Nat.reduceEqDiff, h2], by simp only [za, ↓reduceIte, Nat.reduceEqDiff, h3], by simp only [za, ↓reduceIte]; rfl⟩
  ·rw [List.take_add_one, List.getElem?_eq_getElem hlt]
   exact hR9.turns yG hua (hnea y')
  ·exact ((hst6.trans (hst68.weaken hst6.next)).trans ((hut9.keeps hyF (by omega)).weaken hs5.next)).trans ⟨by omega, fun j hj => hota j (by omega)⟩
 clear hn h0 f hself3 ht4 ht5 hot4 hot5 hbo hbo5 ht15 ht25 l0 l1 l2 hlow ht13 hAl hAo hA A
 rintro z f s6 ⟨rfl, y, LC, hyo, hR, hyF, hbv, hbf, hb1', hb2', hb3', hst6, hn6, hn, h1, h2, h3⟩
 have hys := hyo.sees
 have hyf : Foot (FF (.slice none 0 0)) y := Foot.of_id (fun j hj => by rw [hFF]; have := hyF _ hj; exact ⟨by have := hs5.next; omega, by omega, fun e => by cases e⟩)
 have hmono : ∀ j, FF y j -> FF (.slice none 0 0) j := fun j hj => by rw [hFF] at hj ⊢; exact ⟨hj.1, hj.2.1, fun e => by cases e⟩
 replace hR := hR.mono yG hmono
 replace hbf := hbf.mono hmono
 clear hyo
 simp -implicitDefEqProofs (disch := omega) only [allW, Nat.reduceLT, ↓reduceIte, hn]
 refine yf.loopOut (fun z f s7 => ∃ (i : Nat) (w : Value) (DC : List Value), z = d.length - i ∧ i ≤ d.length ∧ Own s7 6 w i DC ∧ zt yg 6 (FF w) s7 (d.take i) DC ∧ yb s5.next w ∧ Sees s7 1 bv' b.length (zF b) ∧ Foot (FF w) bv' ∧ Sees s7 5 y l.length LC ∧ Foot (FF w) y ∧ zt OIs 5 (FF w) s7 l LC ∧ zd s7 s.next [.int .i64 kind, .int .i64 num, bv, lv, dv] ∧ zd s7 s1.next zG ∧ zd s7 s2.next [.int .i64 kind, .int .i64 num, bv', y, w] ∧ Stay s.next s s7 ∧ s5.next ≤ s7.next ∧ f.n = 59 ∧ f.get 1 = .pointer (some ⟨s.next, 0, some 6⟩) ∧ f.get 2 = .pointer (some ⟨s1.next, 0, some 6⟩) ∧ f.get 3 = .pointer (some ⟨s2.next, 0, some 6⟩) ∧ f.get 5 = .int .i64 (i : Nat))
  (fun z f s7 => z = .exit 2 ∧ ∃ (w : Value) (DC : List Value), Own s7 6 w d.length DC ∧ zt yg 6 (FF w) s7 d DC ∧ yb s5.next w ∧ Sees s7 1 bv' b.length (zF b) ∧ Foot (FF w) bv' ∧ Sees s7 5 y l.length LC ∧ Foot (FF w) y ∧ zt OIs 5 (FF w) s7 l LC ∧ zd s7 s1.next zG ∧ zd s7 s2.next [.int .i64 kind, .int .i64 num, bv', y, w] ∧ Stay s.next s s7 ∧ s5.next ≤ s7.next ∧ f.n = 59 ∧ f.get 2 = .pointer (some ⟨s1.next, 0, some 6⟩) ∧ f.get 3 = .pointer (some ⟨s2.next, 0, some 6⟩))
  ⟨0, .slice none 0 0, [], rfl, by omega, .nil, by rw [List.take_zero]; exact zt.nil, yb.nil _, hbv, hbf, hys, hyf, hR, hb1', hb2', hb3', hst6, hn6, by simp only [zf, hn], by simp only [za, ↓reduceIte, Nat.reduceEqDiff, h1], by simp only [za, ↓reduceIte, Nat.reduceEqDiff, h2], by simp only [za, ↓reduceIte, Nat.reduceEqDiff, h3], by simp only [za, ↓reduceIte]; rfl⟩ ?_ ?_
 ·clear hn h1 h2 h3 f hb1' hb2' hb3' hst6 hn6 hbv hbf hys hyf hR s6
  rintro Q hQ z f s6 ⟨i, w, DC, rfl, hi, hw, hRE, hwF, hbv, hbf, hys, hyf, hR, hb1', hb2', hb3', hst6, hn6, hn, h1, h2, h3, h5⟩
  have hD6 := hD.keeps hst6
  have l6 : zg Try.prog s6 29 (.pointer (some ⟨s.next, 4, some 6⟩)) = some dv := hb1'.load agDs (off := 4) (c := 6) rfl (by simp)
  by_cases hlt : i < d.length
  rotate_left
  ·obtain rfl : i = d.length := by omega
   rw [List.take_length] at hRE
   have d1 : ¬ ((d.length : Nat) : Int) < ((d.length : Nat) : Int) := by omega
   simp -implicitDefEqProofs (disch := omega) only [allW, zc, Nat.reduceLT, Nat.reduceEqDiff, ↓reduceIte, hn, h1, h5, of4, l6, hD6.lenA Try.underlying29, eq_false d1]
   refine hQ _ _ _ ⟨rfl, w, DC, hw, hRE, hwF, hbv, hbf, hys, hyf, hR, hb2', hb3', hst6, hn6, by simp only [zf, hn], by simp only [za, ↓reduceIte, Nat.reduceEqDiff, h2], by simp only [za, ↓reduceIte, Nat.reduceEqDiff, h3]⟩
  have hw2 : idOf w ≠ some s2.next := fun e => by have := hwF _ e; have := hb3'.lt; have := ht5lt; omega
  have d1 : (i : Int) < (d.length : Int) := by omega
  simp -implicitDefEqProofs (disch := omega) only [allW, zc, Nat.reduceLT, Nat.reduceEqDiff, ↓reduceIte, hn, h1, h5, of4, l6, hD6.lenA Try.underlying29, eq_true d1]
  obtain ⟨A, hA⟩ : ∃ A : Nat -> Bool, A = fun j => decide (j < s6.next) := ⟨_, rfl⟩
  have hAl : ∀ j, A j = true -> j < s6.next := by
   intro j h
   rw [hA] at h
   exact of_decide_eq_true h
  have hAo : ∀ j, j < s6.next -> A j = true := fun j h => by rw [hA]; exact decide_eq_true h
  refine LB.Drawn.looseK A hAl 1 1 (by kernel_rfl) (by kernel_rfl) ?_
  have hsp := Stay.spare s6 1
  have hnT : (spare s6 1).next = s6.next + 1 := zH _ _
  have hlow1 : ∀ k, LA.lowV A (some (.pointer (some ⟨s.next, k, some 6⟩))) = true := fun k => LA.lowV_ptr (A := A) (i := s.next) (hAo _ hb1'.lt)
  have hlow3 : ∀ k, LA.lowV A (some (.pointer (some ⟨s2.next, k, some 6⟩))) = true := fun k => LA.lowV_ptr (A := A) (i := s2.next) (hAo _ hb3'.lt)
  have l7 : zg Try.prog (spare s6 1) 29 (.pointer (some ⟨s.next, 4, some 6⟩)) = some dv := (hb1'.keeps hsp).load agDs (off := 4) (c := 6) rfl (by simp)
  have l8 : zg Try.prog (spare s6 1) 29 (.pointer (some ⟨s2.next, 4, some 6⟩)) = some w := (hb3'.keeps hsp).load agDs (off := 4) (c := 6) rfl (by simp)
  have hD7 := hD6.keeps hsp
  have hix := hD7.indexAddr (P := Try.prog) (k := .i64) (x := (i : Int)) Try.underlying29 szE (by omega) (by omega)
  rw [Int.toNat_natCast] at hix
  obtain ⟨q0, q1⟩ := efE hD7 hlt
  obtain ⟨r, hr1, hr2, hr3⟩ := rd.row i hlt
  obtain ⟨hk6, hv6⟩ := ve hr1
  have hlk := hD7.loadField (P := Try.prog) xy hlt (j := 0) (by omega)
  rw [Nat.add_zero, hk6] at hlk
  have hlv := hD7.loadPart (P := Try.prog) agO szO hlt (j := 1) (by omega)
  rw [hv6] at hlv
  have hoi := (hr2.keeps hst6).keeps hsp
  simp -implicitDefEqProofs (disch := omega) only [allW, allR, allL, allB, Nat.sub_self, zc, zn, Nat.reduceLT, Nat.reduceEqDiff, ↓reduceIte, hn, h1, h3, h5, of4, hlow1, hlow3, l7, l8, hD7.self, hw.self, hix, q0, q1, hlk, hlv, yC, LA.lowV_plus hD6 hAo hlt, hoi.self]
  refine (ih d[i].2 (by have := O.ents_lt (k := kind) (n := num) (b := b) (l := l) (d := d) (List.getElem_mem hlt); omega) F (spare s6 1) _ hoi (hD1 _ (List.getElem_mem hlt))).mono ?_
  rintro _ s7 ⟨cs7, rfl, ho7, hst7⟩
  have hn7 := hst7.next
  refine ⟨fun _ => LA.Stay.toA hAl (hst7.weaken (by omega)), ?_⟩
  have hl7 := ho7.len
  obtain ⟨es, hes⟩ : ∃ es, es = Value.string ⟨(d[i].1).toArray⟩ :: cs7 := ⟨_, rfl⟩
  have hel : es.length = 6 := by rw [hes]; simp [hl7]
  have hself6 : zD (.agg es.toArray) (.agg es.toArray) = true := by
   have := ho7.self
   rw [hes]
   match cs7, hl7, this with
   | [a, b, c, d, e], _, this =>
    simp [zD, yB] at this ⊢
    exact ⟨by simp [zV], this⟩
  have hbE := bE d[i].1 hl7
  rw [← hes] at hbE
  simp -implicitDefEqProofs (disch := omega) only [allW, allB, zn, Nat.reduceLT, ↓reduceIte, hn, hbE, hself6, yS (cs := es.toArray) Try.underlying29 szE zE plE rfl hel (by decide)]
  refine LB.smake_newSlice (base := s6.next) hel (by omega) (Nat.le_refl _) ?_
  intro bs s8 hbs hid hst8 hnx8 hot8
  have hst68 : Stay s6.next s6 s8 := (hsp.trans (hst7.weaken (by omega))).trans hst8
  have hn8 := hst68.next
  have ho8 : yg (FF w) s8 es d[i] := by
   refine ⟨cs7, hes, (ho7.turns (u := .pointer (some ⟨s6.next, 0, none⟩)) (zA.ofPut hnx8 hot8) (fun j hj e => ?_)).mono (fun j hj => ?_), hr3⟩
   ·have e : some s6.next = some j := e
    injection e with e; omega
   ·rw [hFF]; exact ⟨by have := hst6.next; omega, by omega, fun e => by have := hw.idlt _ e; omega⟩
  have hesok : es.all okCell = true := by rw [hes, List.all_cons, ho7.ok]; rfl
  simp -implicitDefEqProofs (disch := omega) only [allW, allB, zc, Nat.reduceLT, Nat.reduceEqDiff, ↓reduceIte, hn]
  refine LB.sstep_append Try.underlying29 Try.underlying29 (.inl ⟨_, rfl⟩) szE byE zE rfl (hw.keeps hst68) hbs.sees.src hel (by decide) hesok (by omega) (by omega) (base := s5.next) hwF (by omega) (fun h => absurd rfl h) (fun j hj => by have := hAl j hj; omega) ?_
  intro w' s9 hw9 hF9 hut9 hor
  have hn9 := hut9.next
  have hnew : ∀ j, FF w j ∧ j < s8.next -> FF w' j := fun j hj => by
   rw [hFF] at hj ⊢
   refine ⟨hj.1.1, hj.1.2.1, fun e => ?_⟩
   rcases hor with h1 | ⟨q, h1, h2⟩
   ·exact hj.1.2.2 (by rw [← h1]; exact e)
   ·rw [h1] at e; injection e with e; have := hj.2; omega
  have hnw : ∀ j, FF w j -> idOf w ≠ some j := fun j hj => by rw [hFF] at hj; exact hj.2.2
  have hRE8 := hRE.keeps zZ hst68
  have ho8' := ho8
  rw [hFF] at hRE8 ho8'
  have hRE9 := hRE8.grow zZ hel ho8' hut9 hor
  rw [show (fun j => s2.next + 1 ≤ j ∧ ¬ j = s2.next ∧ idOf w' ≠ some j) = FF w' by rw [hFF]] at hRE9
  have hbv8 := hbv.keeps hst68
  have hys8 := hys.keeps hst68
  have hbv9 := hbv8.turnsF hbf hut9 hnw
  have hys9 := hys8.turnsF hyf hut9 hnw
  have hbf9 := (hbf.below hbv8).mono hnew
  have hyf9 := (hyf.below hys8).mono hnew
  have hR9 := ((hR.keeps yG hst68).below yG |>.turns yG hut9 (fun j hj => hnw j hj.1)).mono yG hnew
  have hy92 : idOf w' ≠ some s2.next := fun e => by
   rcases hor with h1 | ⟨q, h1, h2⟩
   ·exact hw2 (by rw [← h1]; exact e)
   ·rw [h1] at e; injection e with e; have := hb3'.lt; omega
  simp -implicitDefEqProofs (disch := omega) only [allW, allL, allB, Nat.reduceSub, Nat.reduceLT, Nat.reduceEqDiff, ↓reduceIte, hn, h3, of4]
  refine LB.sstep_storeN szDs (by decide) ((hb3'.keeps hst68).turns hut9 hw2) (off := 4) (c := 6) rfl (vs := [w']) hw9.sees.cell1 rfl (by simp) (by simp [hw9.sees.okCell]) (fun h => absurd rfl h) ?_
  intro sa hta hnxa hota
  have hta : zd sa s2.next [.int .i64 kind, .int .i64 num, bv', y, w'] := hta
  have hua : zA (.pointer (some ⟨s2.next, 0, none⟩)) s9 sa := zA.ofPut hnxa hota
  have hnea : ∀ v j, FF v j -> idOf (.pointer (some ⟨s2.next, 0, none⟩)) ≠ some j := fun v j hj e => by
   have e : some s2.next = some j := e
   injection e with e
   rw [hFF] at hj; exact hj.2.1 e.symm
  simp -implicitDefEqProofs (disch := omega) only [allW, allB, Nat.reduceSub, Nat.reduceLT, Nat.reduceEqDiff, ↓reduceIte, hn, h5, zR]
  refine zz (d.length - (i + 1)) (by omega) ⟨i + 1, w', DC ++ es, rfl, by omega, hw9.ofPut hnxa hota hy92, ?_, hF9, hbv9.turnsF hbf9 hua (hnea w'), hbf9, hys9.turnsF hyf9 hua (hnea w'), hyf9, hR9.turns yG hua (hnea w'), ((hb1'.keeps hst68).turns hut9 (fun e => by have := hwF _ e; have := hs5.next; have := ht5lt; omega)).ofPut hnxa hota (by omega), ((hb2'.keeps hst68).turns hut9 (fun e => by have := hwF _ e; have := ht5lt; omega)).ofPut hnxa hota (by omega), hta, ?_, by omega, by simp only [zf, hn], by simp only [za, ↓reduceIte, Nat.reduceEqDiff, h1], by simp only [za, ↓reduceIte, Nat.reduceEqDiff, h2], by simp only [za, ↓reduceIte, Nat.reduceEqDiff, h3], by simp only [za, ↓reduceIte]; rfl⟩
  ·rw [List.take_add_one, List.getElem?_eq_getElem hlt]
   exact hRE9.turns zZ hua (hnea w')
  ·exact ((hst6.trans (hst68.weaken hst6.next)).trans ((hut9.keeps hwF (by omega)).weaken hs5.next)).trans ⟨by omega, fun j hj => hota j (by omega)⟩
 clear hn h1 h2 h3 f hb1' hb2' hb3' hst6 hn6 hbv hbf hys hyf hR s6
 rintro z f s6 ⟨rfl, w, DC, hw, hRE, hwF, hbv, hbf, hys, hyf, hR, hb2', hb3', hst6, hn6, hn, h2, h3⟩
 have la := zd.loadAll (P := Try.prog) (cs := [.int .i64 kind, .int .i64 num, bv', y, w]) agO szO hb3' (c := 6) rfl
 have ok1 := hbv.okCell
 have ok2 := hys.okCell
 have ok3 := hw.sees.okCell
 simp -implicitDefEqProofs (disch := omega) only [allW, Nat.reduceLT, Nat.reduceEqDiff, ↓reduceIte, hn, h2, h3, la]
 refine zi szO (by decide) hb2' rfl rfl rfl (by simp only [List.all_cons, List.all_nil, ok1, ok2, ok3]; rfl) ?_
 intro s7 ht7 hnx7 hot7
 have l7 := zd.loadAll (P := Try.prog) (cs := [.int .i64 kind, .int .i64 num, bv', y, w]) agO szO ht7 (c := 6) rfl
 simp -implicitDefEqProofs (disch := omega) only [allW, zj, zh, Nat.reduceLT, Nat.reduceEqDiff, ↓reduceIte, hn, h2, l7, zy, Try.results29]
 have hu7 : zA (.pointer (some ⟨s1.next, 0, none⟩)) s6 s7 := zA.ofPut hnx7 hot7
 have hne7 : ∀ j, FF w j -> idOf (.pointer (some ⟨s1.next, 0, none⟩)) ≠ some j := fun j hj e => by
  have e : some s1.next = some j := e
  injection e with e
  rw [hFF] at hj; have := hj.1; omega
 have hwf : Foot (fun j => s.next ≤ j) w := Foot.of_id (fun j hj => by have := hwF _ hj; have := hs5.next; omega)
 have hm : ∀ j, FF w j -> s.next ≤ j := fun j hj => by rw [hFF] at hj; have := hj.1; have := hs2.next; omega
 exact ⟨_, rfl, OIs.whole (hbv.turnsF hbf hu7 hne7) (hys.turnsF hyf hu7 hne7) (hw.sees.ofPut hnx7 hot7 (fun e => by have := hwF _ e; omega)) (hbf.mono hm) (hyf.mono hm) hwf ((hR.turns yG hu7 hne7).mono yG hm) ((hRE.turns zZ hu7 hne7).mono zZ hm), hst6.trans ⟨by omega, fun j hj => hot7 j (by have := hst1.next; omega)⟩⟩
end Go.Proofs.Ytokfoagohblkoaa