import Derived.Test.YtokfoagohblkoaaPgO
import Derived.Test.YtokfoagohblkoaaPgD
set_option linter.unusedSimpArgs false
set_option linter.unusedVariables false
set_option maxRecDepth 100000
namespace Go.Cl
section
variable {m c : List Int} {r n : Int} {rc oc : List Value}
theorem Qs (hm : m.length = 4) (hc : c.length = 4) : ((pgC m c r rc n oc).drop 4).take 4 = i64V c := by
 obtain ⟨a, b, d, e, rfl⟩ := four hm
 obtain ⟨a1, b1, d1, e1, rfl⟩ := four hc
 rfl
theorem Ud (hm : m.length = 4) (hc : c.length = 4) : (pgC m c r rc n oc).getD 8 undef = .int .i64 r := by
 obtain ⟨a, b, d, e, rfl⟩ := four hm
 obtain ⟨a1, b1, d1, e1, rfl⟩ := four hc
 rfl
theorem Qe (hm : m.length = 4) (hc : c.length = 4) (h1 : rc.length = 5) : (pgC m c r rc n oc).getD 14 undef = .int .i64 n := by
 obtain ⟨a, b, d, e, rfl⟩ := four hm
 obtain ⟨a1, b1, d1, e1, rfl⟩ := four hc
 obtain ⟨_, _, _, _, _, rfl⟩ := five h1
 rfl
theorem Qt (hm : m.length = 4) (hc : c.length = 4) (h1 : rc.length = 5) : ((pgC m c r rc n oc).drop 9).take 5 = rc := by
 obtain ⟨a, b, d, e, rfl⟩ := four hm
 obtain ⟨a1, b1, d1, e1, rfl⟩ := four hc
 obtain ⟨_, _, _, _, _, rfl⟩ := five h1
 rfl
theorem Ue (hm : m.length = 4) (hc : c.length = 4) (h1 : rc.length = 5) (h2 : oc.length = 5) : ((pgC m c r rc n oc).drop 15).take 5 = oc := by
 obtain ⟨a, b, d, e, rfl⟩ := four hm
 obtain ⟨a1, b1, d1, e1, rfl⟩ := four hc
 obtain ⟨_, _, _, _, _, rfl⟩ := five h1
 obtain ⟨_, _, _, _, _, rfl⟩ := five h2
 rfl
end
theorem PgIs.eqC {F : Nat -> Prop} {s : ASt} {cs : List Value} {p : PgO} (h : PgIs F s cs p) : ∃ rc oc, cs = pgC p.media p.crop p.rotate rc p.num oc ∧ p.media.length = 4 ∧ p.crop.length = 4 ∧ OIs F s rc p.res ∧ OIs F s oc p.obj := by
 obtain ⟨rc, oc, h1, h2, h3, h4, h5⟩ := h
 exact ⟨rc, oc, by rw [h1]; simp [pgC, lfC], h2, h3, h4, h5⟩
theorem Wb {p : Prop} {v : Value} (h : wy p v) (hp : p) : v = .bool true := by
 obtain ⟨b, rfl, hb⟩ := h
 rw [hb.2 hp]
theorem Uf {F : Nat -> Prop} {s : ASt} {k : List UInt8} {cs : List Value} {o : O} (h : OIs F s cs o) (hk : k.length ≤ 9223372036854775807) : zt yg 6 F s [(k, o)] (.string ⟨k.toArray⟩ :: cs) :=
 zt.snoc (D := []) (lc := []) zt.nil (by rw [List.length_cons, h.len]) ⟨cs, rfl, h, hk⟩
def vJ : O := .mk 6 0 [] [.mk 9 3 [] [] []] []
def qE : O := .mk 6 0 [] (rO [(2, 0), (2, 0), (2, 9), (2, 9)]) []
def D21 : Dc := ⟨0, [], 0, .mk 7 0 [] [] [(wI, .mk 9 1 [] [] [])], [(1, .mk 7 0 [] [] [(zS, .mk 9 2 [] [] [])]), (2, .mk 7 0 [] [] [(yX, vJ), (kMed, qE), (yA, .mk 5 0 zS [] [])]), (3, .mk 7 0 [] [] [(yA, .mk 5 0 wP [] [])])]⟩
theorem put21 : yd [] [(yA, .mk 5 0 zS [] []), (yX, vJ), (kMed, qE)] = [(yX, vJ), (kMed, qE), (yA, .mk 5 0 zS [] [])] := by kernel_rfl
theorem abj : (qj D21.items D21.trailer).2 = 0 ∧ (qj D21.items D21.trailer).1.map (fun p => (p.num, p.media)) = [(3, [0, 0, 900000, 900000])] := by decide +kernel
theorem vG (b : List UInt8) (h : b.length ≤ 100000) : zu (.mk 5 0 b [] []) := .mk h (by simp) (by simp) (fun e h => by cases h) (fun e h => by cases h) (fun e h => by cases h)
theorem YZ {k : List UInt8} {o : O} (hk : k.length ≤ 100000) (ho : zu o) : zu (.mk 7 0 [] [] [(k, o)]) := .mk (by simp) (by simp) (by simp) (fun e h => by simp at h; rw [h]; exact hk) (fun e h => by cases h) (fun e h => by simp at h; rw [h]; exact ho)
theorem ZN : zu vJ := .mk (by simp) (by simp) (by simp) (fun e h => by cases h) (fun e h => by simp at h; rw [h]; exact zu.bare 9 3) (fun e h => by cases h)
theorem Xa : zu qE := .mk (by simp) (by simp [rO]) (by simp) (fun e h => by cases h) (Uc _) (fun e h => by cases h)
theorem Ux : zu (.mk 7 0 [] [] [(yX, vJ), (kMed, qE), (yA, .mk 5 0 zS [] [])]) :=
 .mk (by simp) (by simp) (by simp) (fun e h => by
  simp only [List.mem_cons, List.not_mem_nil, or_false] at h
  rcases h with rfl | rfl | rfl <;> decide) (fun e h => by cases h) (fun e h => by
  simp only [List.mem_cons, List.not_mem_nil, or_false] at h
  rcases h with rfl | rfl | rfl
  ·exact ZN
  ·exact Xa
  ·exact vG _ (by decide))
theorem abk : yN D21 where
 mark := by decide
 len := by decide
 trailer := YZ (by decide) (zu.bare 9 1)
 items := fun e h => by
  simp only [D21, List.mem_cons, List.not_mem_nil, or_false] at h
  rcases h with rfl | rfl | rfl
  ·exact YZ (by decide) (zu.bare 9 2)
  ·exact Ux
  ·exact YZ (by decide) (vG _ (by decide))
 nodes := by simp [D21, vJ, qE, rO, Jq]
theorem PgIs.self {F : Nat -> Prop} {s : ASt} {cs : List Value} {p : PgO} (h : PgIs F s cs p) : zD (.agg cs.toArray) (.agg cs.toArray) = true := by
 obtain ⟨rc, oc, rfl, h2, h3, h4, h5⟩ := h.eqC
 exact WC h4.self h5.self
end Go.Cl
namespace Go.Proofs.Ytokfoagohblkoaa
open Go.Cl Go.Lib
theorem rp1 (i o c : Nat) : zk Try.prog 52 (.pointer (some ⟨i, o, some c⟩)) 1 = some (.pointer (some ⟨i, o + 14, some c⟩)) := by
 unfold zk; rw [Try.underlying52]; simp [yP]
theorem rp2 (i o c : Nat) : zk Try.prog 52 (.pointer (some ⟨i, o, some c⟩)) 2 = some (.pointer (some ⟨i, o + 15, some c⟩)) := by
 unfold zk; rw [Try.underlying52]; simp [szO]
theorem pp0 (i o c : Nat) : zk Try.prog 57 (.pointer (some ⟨i, o, some c⟩)) 0 = some (.pointer (some ⟨i, o + 0, some c⟩)) := by
 unfold zk; rw [Try.underlying57]; simp [szLf]
theorem pp1 (i o c : Nat) : zk Try.prog 57 (.pointer (some ⟨i, o, some c⟩)) 1 = some (.pointer (some ⟨i, o + 14, some c⟩)) := by
 unfold zk; rw [Try.underlying57]; simp [yP]
theorem pp2 (i o c : Nat) : zk Try.prog 57 (.pointer (some ⟨i, o, some c⟩)) 2 = some (.pointer (some ⟨i, o + 15, some c⟩)) := by
 unfold zk; rw [Try.underlying57]; simp [szO]
theorem boxEqP {l : List Int} (hl : l.length = 4) : binA Try.prog .eql 37 (.agg (i64V l).toArray) (.agg (i64V l).toArray) = some (.bool true) := by
 obtain ⟨a, b, c, d, rfl⟩ := four hl
 have g : Try.prog.eqGuardType Try.prog.depth 37 = false := by kernel_rfl
 have h : vH Try.prog 37 (i64V [a, b, c, d]).toArray (i64V [a, b, c, d]).toArray = some true := by
  unfold vH
  rw [Try.underlying37]
  simp only [Try.underlying2, wO, g]
  simp [i64V, xz]
 show (match vH Try.prog 37 (i64V [a, b, c, d]).toArray (i64V [a, b, c, d]).toArray with
  | some b => some (Value.bool b)
  | none => none) = _
 rw [h]
theorem Ug {l : List Int} (hl : l.length = 4) : binA Try.prog .eql 48 (.agg (i64V l).toArray) (.agg (i64V l).toArray) = some (.bool true) := by
 obtain ⟨a, b, c, d, rfl⟩ := four hl
 have g : Try.prog.eqGuardType Try.prog.depth 48 = false := by kernel_rfl
 have h : vH Try.prog 48 (i64V [a, b, c, d]).toArray (i64V [a, b, c, d]).toArray = some true := by
  unfold vH
  rw [Try.underlying48]
  simp only [Try.underlying2, wO, g]
  simp [i64V, xz]
 show (match vH Try.prog 48 (i64V [a, b, c, d]).toArray (i64V [a, b, c, d]).toArray with
  | some b => some (Value.bool b)
  | none => none) = _
 rw [h]
theorem bRl {m c rc : List Value} (r : Int) (hm : m.length = 4) (hc : c.length = 4) (h1 : rc.length = 5) : yE Try.prog 50 [(0, .agg m.toArray), (1, .agg c.toArray), (2, .int .i64 r), (3, .agg rc.toArray)] = some (.agg (m ++ (c ++ (.int .i64 r :: rc))).toArray) := by
 obtain ⟨a, b, d, e, rfl⟩ := four hm
 obtain ⟨a1, b1, d1, e1, rfl⟩ := four hc
 obtain ⟨_, _, _, _, _, rfl⟩ := five h1
 kernel_rfl
theorem bRp2 {l oc : List Value} (n : Int) (hl : l.length = 14) (ho : oc.length = 5) : yE Try.prog 52 [(0, .agg l.toArray), (1, .int .i64 n), (2, .agg oc.toArray)] = some (.agg (l ++ (.int .i64 n :: oc)).toArray) := by
 obtain ⟨a1, a2, a3, a4, a5, a6, a7, a8, a9, a10, a11, a12, a13, a14, rfl⟩ := KX hl
 obtain ⟨a, b, c, d, e, rfl⟩ := five ho
 kernel_rfl
set_option maxHeartbeats 4000000 in
theorem Tz (F : Nat -> Prop) (s : ASt) (cs : List Value) (p : PgO) (h : PgIs F s cs p) :
  Runs Try.prog libN 17 [.agg cs.toArray] s fun v s' => v = .agg cs.toArray ∧ Stay s.next s s' := by
 obtain ⟨rc, oc, e, hm, hc, hr, ho⟩ := h.eqC
 have hl := h.len
 have hrl := hr.len
 have hol := ho.len
 have hok := h.ok
 refine Runs.enter 21 Try.func17 rfl rfl rfl rfl ?_
 intro f hn hf
 have h0 : f.get 0 = .agg cs.toArray := hf 0
 clear hf
 simp -implicitDefEqProofs (disch := omega) only [allW, Nat.reduceLT, ↓reduceIte, hn, h0]
 refine ze ?_
 intro s1 ht1 hst1 hnx1
 have ht1 : zd s1 s.next cs := ht1
 simp -implicitDefEqProofs (disch := omega) only [allW, Nat.reduceLT, Nat.reduceAdd, ↓reduceIte, hn, hl, zRp, plPg]
 refine ze ?_
 intro s2 ht2 hst2 hnx2
 have ht12 := ht1.keeps hst2
 have hd21 : YY.length + 1 = 21 := rfl
 have l1 : zg Try.prog s2 37 (.pointer (some ⟨s.next, 0, some 21⟩)) = some (.agg (i64V p.media).toArray) := by
  rw [ht12.loadMid (P := Try.prog) agBx szBx (off := 0) (c := 21) (by rw [hl]) (by rw [hl]; decide), e, jP hm]
 have l2 : zg Try.prog s2 37 (.pointer (some ⟨s.next, 4, some 21⟩)) = some (.agg (i64V p.crop).toArray) := by
  rw [ht12.loadMid (P := Try.prog) agBx szBx (off := 4) (c := 21) (by rw [hl]) (by rw [hl]; decide), e, Qs hm hc]
 have l3 : zg Try.prog s2 3 (.pointer (some ⟨s.next, 8, some 21⟩)) = some (.int .i64 p.rotate) := by
  rw [ht12.load (P := Try.prog) zT (off := 8) (c := 21) (by rw [hl]) (by rw [hl]; decide), e, Ud hm hc]
 have l4 : zg Try.prog s2 31 (.pointer (some ⟨s.next, 9, some 21⟩)) = some (.agg rc.toArray) := by
  rw [ht12.loadMid (P := Try.prog) agO szO (off := 9) (c := 21) (by rw [hl]) (by rw [hl]; decide), e, Qt hm hc hrl]
 have l5 : zg Try.prog s2 3 (.pointer (some ⟨s.next, 14, some 21⟩)) = some (.int .i64 p.num) := by
  rw [ht12.load (P := Try.prog) zT (off := 14) (c := 21) (by rw [hl]) (by rw [hl]; decide), e, Qe hm hc hrl]
 have l6 : zg Try.prog s2 31 (.pointer (some ⟨s.next, 15, some 21⟩)) = some (.agg oc.toArray) := by
  rw [ht12.loadMid (P := Try.prog) agO szO (off := 15) (c := 21) (by rw [hl]) (by rw [hl]; decide), e, Ue hm hc hrl hol]
 have b1 := bRl (m := i64V p.media) (c := i64V p.crop) p.rotate (by simp [i64V, hm]) (by simp [i64V, hc]) hrl
 have b2 := bRp2 (l := i64V p.media ++ (i64V p.crop ++ (.int .i64 p.rotate :: rc))) p.num (by simp [i64V, hm, hc, hrl]) hol
 have e2 : (i64V p.media ++ (i64V p.crop ++ (.int .i64 p.rotate :: rc))) ++ (.int .i64 p.num :: oc) = cs := by rw [e]; simp [pgC, lfC]
 rw [e2] at b2
 simp -implicitDefEqProofs (disch := omega) only [allW, zn, Nat.reduceLT, Nat.reduceEqDiff, ↓reduceIte, hn, hd21, pp0, pp1, pp2, lf0, lf1, lf2, lf3, l1, l2, l3, l4, l5, l6, b1, b2]
 refine zi szRp (by decide) ht2 rfl rfl hl hok ?_
 intro s3 ht3 nt3 et3
 have lb : zg Try.prog s3 52 (.pointer (some ⟨s1.next, 0, some 21⟩)) = some (.agg cs.toArray) := zd.loadAll agRp (by rw [hl]; exact szRp) ht3 (by rw [hl])
 simp -implicitDefEqProofs (disch := omega) only [allW, zj, zh, Nat.reduceLT, Nat.reduceEqDiff, ↓reduceIte, hn, lb, zy, Try.results17]
 exact (hst1.trans (hst2.weaken (by omega))).trans ⟨by omega, fun j hj => et3 j (by omega)⟩
set_option maxHeartbeats 4000000 in
theorem SJ (F G : Nat -> Prop) (s : ASt) (ca cb : List Value) (p : PgO) (ha : PgIs F s ca p) (hb : PgIs G s cb p) (hs1 : zu p.res) (hs2 : zu p.obj) :
  Runs Try.prog libN 16 [.agg ca.toArray, .agg cb.toArray] s fun v s' => v = .bool true ∧ Stay s.next s s' := by
 obtain ⟨rc, oc, ea, hm, hc, hr, ho⟩ := ha.eqC
 obtain ⟨rd, od, eb, _, _, hr2, ho2⟩ := hb.eqC
 have hl := ha.len
 have hl2 := hb.len
 have hrl := hr.len
 have hol := ho.len
 have hrl2 := hr2.len
 have hol2 := ho2.len
 refine Runs.enter 53 Try.func16 rfl rfl rfl rfl ?_
 intro f hn hf
 have h0 : f.get 0 = .agg ca.toArray := hf 0
 have h1 : f.get 1 = .agg cb.toArray := hf 1
 clear hf
 simp -implicitDefEqProofs (disch := omega) only [allW, Nat.reduceLT, ↓reduceIte, hn, h0]
 refine ze ?_
 intro s1 ht1 hst1 hnx1
 have ht1 : zd s1 s.next ca := ht1
 simp -implicitDefEqProofs (disch := omega) only [allW, Nat.reduceLT, Nat.reduceEqDiff, Nat.reduceAdd, ↓reduceIte, hn, h1, hl]
 refine ze ?_
 intro s2 ht2 hst2 hnx2
 have ht2 : zd s2 s1.next cb := ht2
 have ht12 := ht1.keeps hst2
 have hs2' : Stay s.next s s2 := hst1.trans (hst2.weaken (by omega))
 have a1x : ∀ t, Stay s2.next s2 t -> zg Try.prog t 48 (.pointer (some ⟨s.next, 0, some 21⟩)) = some (.agg (i64V p.media).toArray) := fun t k => by
  rw [(ht12.keeps k).loadMid (P := Try.prog) agRx szRx (off := 0) (c := 21) (by rw [hl]) (by rw [hl]; decide), ea, jP hm]
 have a2x : ∀ t, Stay s2.next s2 t -> zg Try.prog t 48 (.pointer (some ⟨s.next, 4, some 21⟩)) = some (.agg (i64V p.crop).toArray) := fun t k => by
  rw [(ht12.keeps k).loadMid (P := Try.prog) agRx szRx (off := 4) (c := 21) (by rw [hl]) (by rw [hl]; decide), ea, Qs hm hc]
 have a3x : ∀ t, Stay s2.next s2 t -> zg Try.prog t 3 (.pointer (some ⟨s.next, 8, some 21⟩)) = some (.int .i64 p.rotate) := fun t k => by
  rw [(ht12.keeps k).load (P := Try.prog) zT (off := 8) (c := 21) (by rw [hl]) (by rw [hl]; decide), ea, Ud hm hc]
 have a4x : ∀ t, Stay s2.next s2 t -> zg Try.prog t 31 (.pointer (some ⟨s.next, 9, some 21⟩)) = some (.agg rc.toArray) := fun t k => by
  rw [(ht12.keeps k).loadMid (P := Try.prog) agO szO (off := 9) (c := 21) (by rw [hl]) (by rw [hl]; decide), ea, Qt hm hc hrl]
 have a5x : ∀ t, Stay s2.next s2 t -> zg Try.prog t 3 (.pointer (some ⟨s.next, 14, some 21⟩)) = some (.int .i64 p.num) := fun t k => by
  rw [(ht12.keeps k).load (P := Try.prog) zT (off := 14) (c := 21) (by rw [hl]) (by rw [hl]; decide), ea, Qe hm hc hrl]
 have a6x : ∀ t, Stay s2.next s2 t -> zg Try.prog t 31 (.pointer (some ⟨s.next, 15, some 21⟩)) = some (.agg oc.toArray) := fun t k => by
  rw [(ht12.keeps k).loadMid (P := Try.prog) agO szO (off := 15) (c := 21) (by rw [hl]) (by rw [hl]; decide), ea, Ue hm hc hrl hol]
 have a1y : ∀ t, Stay s2.next s2 t -> zg Try.prog t 48 (.pointer (some ⟨s1.next, 0, some 21⟩)) = some (.agg (i64V p.media).toArray) := fun t k => by
  rw [(ht2.keeps k).loadMid (P := Try.prog) agRx szRx (off := 0) (c := 21) (by rw [hl2]) (by rw [hl2]; decide), eb, jP hm]
 have a2y : ∀ t, Stay s2.next s2 t -> zg Try.prog t 48 (.pointer (some ⟨s1.next, 4, some 21⟩)) = some (.agg (i64V p.crop).toArray) := fun t k => by
  rw [(ht2.keeps k).loadMid (P := Try.prog) agRx szRx (off := 4) (c := 21) (by rw [hl2]) (by rw [hl2]; decide), eb, Qs hm hc]
 have a3y : ∀ t, Stay s2.next s2 t -> zg Try.prog t 3 (.pointer (some ⟨s1.next, 8, some 21⟩)) = some (.int .i64 p.rotate) := fun t k => by
  rw [(ht2.keeps k).load (P := Try.prog) zT (off := 8) (c := 21) (by rw [hl2]) (by rw [hl2]; decide), eb, Ud hm hc]
 have a4y : ∀ t, Stay s2.next s2 t -> zg Try.prog t 31 (.pointer (some ⟨s1.next, 9, some 21⟩)) = some (.agg rd.toArray) := fun t k => by
  rw [(ht2.keeps k).loadMid (P := Try.prog) agO szO (off := 9) (c := 21) (by rw [hl2]) (by rw [hl2]; decide), eb, Qt hm hc hrl2]
 have a5y : ∀ t, Stay s2.next s2 t -> zg Try.prog t 3 (.pointer (some ⟨s1.next, 14, some 21⟩)) = some (.int .i64 p.num) := fun t k => by
  rw [(ht2.keeps k).load (P := Try.prog) zT (off := 14) (c := 21) (by rw [hl2]) (by rw [hl2]; decide), eb, Qe hm hc hrl2]
 have a6y : ∀ t, Stay s2.next s2 t -> zg Try.prog t 31 (.pointer (some ⟨s1.next, 15, some 21⟩)) = some (.agg od.toArray) := fun t k => by
  rw [(ht2.keeps k).loadMid (P := Try.prog) agO szO (off := 15) (c := 21) (by rw [hl2]) (by rw [hl2]; decide), eb, Ue hm hc hrl2 hol2]
 have k0 := Stay.refl s2.next s2
 simp -implicitDefEqProofs (disch := omega) only [allW, allR, zc, Nat.reduceLT, Nat.reduceEqDiff, Nat.reduceAdd, ↓reduceIte, hn, hl2, rp0, rp1, rl0, rl1, rl2, rl3, a1x _ k0, a2x _ k0, a3x _ k0, a4x _ k0, a5x _ k0, a1y _ k0, a2y _ k0, a3y _ k0, a4y _ k0, a5y _ k0, Ug hm, Ug hc]
 refine (Jl (lib := libN) rfl rfl _ p.res p.res (Nat.le_refl _) F G s2 rc rd (hr.keeps hs2') (hr2.keeps hs2') hs1 hs1).mono ?_
 rintro _ s3 ⟨hv, k3⟩
 obtain rfl := Wb hv (xi.self _)
 have n3 := k3.next
 have ks3 : Stay s.next s s3 := hs2'.trans (k3.weaken (by have := hs2'.next; omega))
 simp -implicitDefEqProofs (disch := omega) only [allW, allR, zc, Nat.reduceLT, Nat.reduceEqDiff, ↓reduceIte, hn, rp2, a6x _ k3, a6y _ k3]
 refine (Jl (lib := libN) rfl rfl _ p.obj p.obj (Nat.le_refl _) F G s3 oc od (ho.keeps ks3) (ho2.keeps ks3) hs2 hs2).mono ?_
 rintro _ s4 ⟨hv, k4⟩
 obtain rfl := Wb hv (xi.self _)
 simp -implicitDefEqProofs (disch := omega) only [allW, zj, zh, Nat.reduceLT, Nat.reduceEqDiff, ↓reduceIte, hn, Try.results16]
 exact ks3.trans (k4.weaken (by have := ks3.next; omega))
theorem efP {s : ASt} {v : Value} {n : Nat} {l : List Value} (h : Sees s 20 v n l) {k : Nat} (hk : k < n) : zk Try.prog 57 (zL 20 v k) 0 = some (yL (zL 20 v k) 0) ∧ zk Try.prog 57 (zL 20 v k) 1 = some (yL (zL 20 v k) 14) ∧ zk Try.prog 55 (yL (zL 20 v k) 0) 0 = some (yL (zL 20 v k) 0) := by
 obtain ⟨i, off, c, e, _⟩ := h.cells hk
 rw [e]
 exact ⟨pp0 _ _ _, pp1 _ _ _, lf0 _ _ _⟩
theorem zDP : yj Try.prog 34 = some (.agg Tx.toArray) := by kernel_rfl
set_option maxHeartbeats 16000000 in
theorem awakeP (s : ASt) : Runs Try.prog libN 7 [] s fun v s' => v = .bool true ∧ Stay s.next s s' := by
 refine Runs.enter 64 Try.func7 rfl rfl rfl rfl ?_
 intro f hn _
 simp -implicitDefEqProofs (disch := omega) only [allW, allR, zc, Nat.reduceLT, ↓reduceIte, hn]
 refine (WD (lib := libN) rfl s 1).mono ?_
 rintro _ s1 ⟨c1, rfl, o1, h1⟩
 simp -implicitDefEqProofs (disch := omega) only [allW, allR, zc, Nat.reduceLT, ↓reduceIte, hn]
 refine (vz (lib := libN) rfl rfl rfl _ s1 wI c1 _ o1 (zu.bare 9 1)).mono ?_
 rintro _ s2 ⟨p2, rfl, e2, h2⟩
 have q2 := e2.len
 simp -implicitDefEqProofs (disch := omega) only [allW, zn, Nat.reduceLT, ↓reduceIte, hn, yS (cs := (.string ⟨wI.toArray⟩ :: p2).toArray) Try.underlying29 szE zE plE rfl (by simp [q2]) (by decide)]
 refine yw (by simp [q2]) ?_
 intro x3 s3 hx3 _ h3
 simp -implicitDefEqProofs (disch := omega) only [allW, allR, zc, Nat.reduceLT, ↓reduceIte, hn]
 refine (qM Xl (fun _ => True) s3 x3 [(wI, .mk 9 1 [] [] [])] _ hx3.sees (Uf ((e2.keeps h3).mono fun _ _ => trivial) (by decide)) (by decide) (fun e he => by simp at he; subst he; exact zu.bare 9 1)).mono ?_
 rintro _ s4 ⟨tc, rfl, o4, h4⟩
 have o4 : OIs (fun j => s3.next ≤ j) s4 tc D21.trailer := o4
 simp -implicitDefEqProofs (disch := omega) only [allW, allR, zc, Nat.reduceLT, ↓reduceIte, hn]
 refine (WD (lib := libN) rfl s4 2).mono ?_
 rintro _ s5 ⟨c5, rfl, o5, h5⟩
 simp -implicitDefEqProofs (disch := omega) only [allW, allR, zc, Nat.reduceLT, ↓reduceIte, hn]
 refine (vz (lib := libN) rfl rfl rfl _ s5 zS c5 _ o5 (zu.bare 9 2)).mono ?_
 rintro _ s6 ⟨p6, rfl, e6, h6⟩
 have q6 := e6.len
 simp -implicitDefEqProofs (disch := omega) only [allW, zn, Nat.reduceLT, ↓reduceIte, hn, yS (cs := (.string ⟨zS.toArray⟩ :: p6).toArray) Try.underlying29 szE zE plE rfl (by simp [q6]) (by decide)]
 refine yw (by simp [q6]) ?_
 intro x7 s7 hx7 _ h7
 simp -implicitDefEqProofs (disch := omega) only [allW, allR, zc, Nat.reduceLT, ↓reduceIte, hn]
 refine (qM Xl (fun _ => True) s7 x7 [(zS, .mk 9 2 [] [] [])] _ hx7.sees (Uf ((e6.keeps h7).mono fun _ _ => trivial) (by decide)) (by decide) (fun e he => by simp at he; subst he; exact zu.bare 9 2)).mono ?_
 rintro _ s8 ⟨c8, rfl, o8, h8⟩
 have q8 := o8.len
 simp -implicitDefEqProofs (disch := omega) only [allW, allR, zc, zn, Nat.reduceLT, ↓reduceIte, hn, Tw 1 q8]
 refine (VU (lib := libN) rfl s8 zS (by decide)).mono ?_
 rintro _ s9 ⟨c9, rfl, o9, h9⟩
 simp -implicitDefEqProofs (disch := omega) only [allW, allR, zc, Nat.reduceLT, ↓reduceIte, hn]
 refine (vz (lib := libN) rfl rfl rfl _ s9 yA c9 _ o9 (vG _ (by decide))).mono ?_
 rintro _ sa ⟨pa, rfl, ea, ha⟩
 have qa := ea.len
 simp -implicitDefEqProofs (disch := omega) only [allW, allR, zc, Nat.reduceLT, ↓reduceIte, hn]
 refine (WD (lib := libN) rfl sa 3).mono ?_
 rintro _ sb ⟨cb, rfl, ob, hb⟩
 have qb := ob.len
 simp -implicitDefEqProofs (disch := omega) only [allW, zn, Nat.reduceLT, ↓reduceIte, hn, yS (cs := cb.toArray) Try.underlying28 szO zO plO rfl (by simp [qb]) (by decide)]
 refine yw (by simp [qb]) ?_
 intro xc sc hxc _ hc
 have rowc : zt OIs 5 (fun _ => True) sc [.mk 9 3 [] [] []] cb := zt.snoc (D := []) (lc := []) zt.nil qb ((ob.keeps hc).mono fun _ _ => trivial)
 simp -implicitDefEqProofs (disch := omega) only [allW, allR, zc, Nat.reduceLT, ↓reduceIte, hn]
 refine (KH (lib := libN) rfl rfl rfl (fun _ => True) sc xc [.mk 9 3 [] [] []] _ hxc.sees rowc (by decide) (fun x hx => by simp at hx; rw [hx]; exact zu.bare 9 3)).mono ?_
 rintro _ sd ⟨cd, rfl, od, hd⟩
 simp -implicitDefEqProofs (disch := omega) only [allW, allR, zc, Nat.reduceLT, ↓reduceIte, hn]
 refine (vz (lib := libN) rfl rfl rfl _ sd yX cd _ od ZN).mono ?_
 rintro _ se ⟨pe, rfl, ee, he⟩
 have qe := ee.len
 simp -implicitDefEqProofs (disch := omega) only [allW, allR, zc, Nat.reduceLT, ↓reduceIte, hn]
 refine (Xm se 0).mono ?_
 rintro _ sf ⟨rfl, hf⟩
 simp -implicitDefEqProofs (disch := omega) only [allW, allR, zc, Nat.reduceLT, ↓reduceIte, hn]
 refine (Xm sf 0).mono ?_
 rintro _ sg ⟨rfl, hg⟩
 simp -implicitDefEqProofs (disch := omega) only [allW, allR, zc, Nat.reduceLT, ↓reduceIte, hn]
 refine (Xm sg 9).mono ?_
 rintro _ sh ⟨rfl, hh⟩
 simp -implicitDefEqProofs (disch := omega) only [allW, allR, zc, Nat.reduceLT, ↓reduceIte, hn]
 refine (Xm sh 9).mono ?_
 rintro _ si ⟨rfl, hi⟩
 simp -implicitDefEqProofs (disch := omega) only [allW, zn, Nat.reduceLT, Nat.reduceEqDiff, ↓reduceIte, hn, abi]
 refine yw (by rfl) ?_
 intro xj sj hxj _ hj
 simp -implicitDefEqProofs (disch := omega) only [allW, allR, zc, Nat.reduceLT, ↓reduceIte, hn]
 refine (KH (lib := libN) rfl rfl rfl (fun _ => True) sj xj (rO [(2, 0), (2, 0), (2, 9), (2, 9)]) _ hxj.sees (abh _ _ _) (by simp [rO]) (Uc _)).mono ?_
 rintro _ sk ⟨ck, rfl, ok, hk⟩
 simp -implicitDefEqProofs (disch := omega) only [allW, allR, zc, Nat.reduceLT, ↓reduceIte, hn]
 refine (vz (lib := libN) rfl rfl rfl _ sk kMed ck _ ok Xa).mono ?_
 rintro _ sl ⟨pl, rfl, el, hl⟩
 have ql := el.len
 simp -implicitDefEqProofs (disch := omega) only [allW, allR, zn, Nat.reduceLT, Nat.reduceEqDiff, ↓reduceIte, hn, Jx (a := (.string ⟨yA.toArray⟩ :: pa).toArray) (b := (.string ⟨yX.toArray⟩ :: pe).toArray) (c := (.string ⟨kMed.toArray⟩ :: pl).toArray) Try.underlying29 szE zE plE rfl (by simp [qa]) (by simp [qe]) (by simp [ql]) (by decide)]
 refine yw (by simp [qa, qe, ql]) ?_
 intro xm sm hxm _ hm
 have n1 := h1.next
 have n2 := h2.next
 have n3 := h3.next
 have n4 := h4.next
 have n5 := h5.next
 have n6 := h6.next
 have n7 := h7.next
 have n8 := h8.next
 have n9 := h9.next
 have na := ha.next
 have nb := hb.next
 have nc := hc.next
 have nd := hd.next
 have ne := he.next
 have nf := hf.next
 have ng := hg.next
 have nh := hh.next
 have ni := hi.next
 have nj := hj.next
 have nk := hk.next
 have nl := hl.next
 have nm := hm.next
 have kem : Stay se.next se sm := ((((((hf.trans (hg.weaken (by omega))).trans (hh.weaken (by omega))).trans (hi.weaken (by omega))).trans (hj.weaken (by omega))).trans (hk.weaken (by omega))).trans (hl.weaken (by omega))).trans (hm.weaken (by omega))
 have kam : Stay sa.next sa sm := ((((hb.trans (hc.weaken (by omega))).trans (hd.weaken (by omega))).trans (he.weaken (by omega)))).trans (kem.weaken (by omega))
 have rowm : zt yg 6 (fun _ => True) sm [(yA, .mk 5 0 zS [] []), (yX, vJ), (kMed, qE)] ((.string ⟨yA.toArray⟩ :: pa) ++ (.string ⟨yX.toArray⟩ :: pe) ++ (.string ⟨kMed.toArray⟩ :: pl)) := by
  have r1 : yg (fun _ => True) sm (.string ⟨yA.toArray⟩ :: pa) (yA, .mk 5 0 zS [] []) := ⟨pa, rfl, (ea.keeps kam).mono fun _ _ => trivial, by decide⟩
  have r2 : yg (fun _ => True) sm (.string ⟨yX.toArray⟩ :: pe) (yX, vJ) := ⟨pe, rfl, (ee.keeps kem).mono fun _ _ => trivial, by decide⟩
  have r3 : yg (fun _ => True) sm (.string ⟨kMed.toArray⟩ :: pl) (kMed, qE) := ⟨pl, rfl, (el.keeps hm).mono fun _ _ => trivial, by decide⟩
  have := ((zt.nil.snoc (cs := .string ⟨yA.toArray⟩ :: pa) (by rw [List.length_cons, qa]) r1).snoc (cs := .string ⟨yX.toArray⟩ :: pe) (by rw [List.length_cons, qe]) r2).snoc (cs := .string ⟨kMed.toArray⟩ :: pl) (by rw [List.length_cons, ql]) r3
  simpa using this
 simp -implicitDefEqProofs (disch := omega) only [allW, allR, zc, Nat.reduceLT, ↓reduceIte, hn]
 refine (qM Xl (fun _ => True) sm xm [(yA, .mk 5 0 zS [] []), (yX, vJ), (kMed, qE)] _ (by simpa using hxm.sees) rowm (by decide) (fun e he => by
  simp only [List.mem_cons, List.not_mem_nil, or_false] at he
  rcases he with rfl | rfl | rfl
  ·exact vG _ (by decide)
  ·exact ZN
  ·exact Xa)).mono ?_
 rintro _ sn ⟨cn, rfl, on, hnn⟩
 rw [put21] at on
 have qn := on.len
 simp -implicitDefEqProofs (disch := omega) only [allW, allR, zc, zn, Nat.reduceLT, ↓reduceIte, hn, Tw 2 qn]
 refine (VU (lib := libN) rfl sn wP (by decide)).mono ?_
 rintro _ so ⟨co, rfl, oo, hoo⟩
 simp -implicitDefEqProofs (disch := omega) only [allW, allR, zc, Nat.reduceLT, ↓reduceIte, hn]
 refine (vz (lib := libN) rfl rfl rfl _ so yA co _ oo (vG _ (by decide))).mono ?_
 rintro _ sp ⟨pp, rfl, ep, hp⟩
 have qp := ep.len
 simp -implicitDefEqProofs (disch := omega) only [allW, zn, Nat.reduceLT, ↓reduceIte, hn, yS (cs := (.string ⟨yA.toArray⟩ :: pp).toArray) Try.underlying29 szE zE plE rfl (by simp [qp]) (by decide)]
 refine yw (by simp [qp]) ?_
 intro xq sq hxq _ hq
 simp -implicitDefEqProofs (disch := omega) only [allW, allR, zc, Nat.reduceLT, ↓reduceIte, hn]
 refine (qM Xl (fun _ => True) sq xq [(yA, .mk 5 0 wP [] [])] _ hxq.sees (Uf ((ep.keeps hq).mono fun _ _ => trivial) (by decide)) (by decide) (fun e he => by simp at he; subst he; exact vG _ (by decide))).mono ?_
 rintro _ sr ⟨cr, rfl, or, hr⟩
 have qr := or.len
 simp -implicitDefEqProofs (disch := omega) only [allW, allR, zn, Nat.reduceLT, Nat.reduceEqDiff, ↓reduceIte, hn, Tw 3 qr, Jx (a := (.int .i64 1 :: c8).toArray) (b := (.int .i64 2 :: cn).toArray) (c := (.int .i64 3 :: cr).toArray) Try.underlying32 szI zI plI rfl (by simp [q8]) (by simp [qn]) (by simp [qr]) (by decide)]
 refine yw (by simp [q8, qn, qr]) ?_
 intro xs ss hxs _ hs
 have nn := hnn.next
 have no := hoo.next
 have np := hp.next
 have nq := hq.next
 have nr := hr.next
 have ns := hs.next
 have kns : Stay sn.next sn ss := (((hoo.trans (hp.weaken (by omega))).trans (hq.weaken (by omega))).trans (hr.weaken (by omega))).trans (hs.weaken (by omega))
 have k8s : Stay s8.next s8 ss := (((h9.trans (ha.weaken (by omega))).trans (kam.weaken (by omega))).trans (hnn.weaken (by omega))).trans (kns.weaken (by omega))
 have k4s : Stay s4.next s4 ss := (((h5.trans (h6.weaken (by omega))).trans (h7.weaken (by omega))).trans (h8.weaken (by omega))).trans (k8s.weaken (by omega))
 have k0s : Stay s.next s ss := (((h1.trans (h2.weaken (by omega))).trans (h3.weaken (by omega))).trans (h4.weaken (by omega))).trans (k4s.weaken (by omega))
 have rows : zt ItIs 6 (fun _ => True) ss D21.items ((.int .i64 1 :: c8) ++ (.int .i64 2 :: cn) ++ (.int .i64 3 :: cr)) := by
  have r1 : ItIs (fun _ => True) ss (.int .i64 1 :: c8) (1, .mk 7 0 [] [] [(zS, .mk 9 2 [] [] [])]) := ⟨c8, rfl, (o8.keeps k8s).mono fun _ _ => trivial⟩
  have r2 : ItIs (fun _ => True) ss (.int .i64 2 :: cn) (2, .mk 7 0 [] [] [(yX, vJ), (kMed, qE), (yA, .mk 5 0 zS [] [])]) := ⟨cn, rfl, (on.keeps kns).mono fun _ _ => trivial⟩
  have r3 : ItIs (fun _ => True) ss (.int .i64 3 :: cr) (3, .mk 7 0 [] [] [(yA, .mk 5 0 wP [] [])]) := ⟨cr, rfl, (or.keeps hs).mono fun _ _ => trivial⟩
  have := ((zt.nil.snoc (cs := .int .i64 1 :: c8) (by rw [List.length_cons, q8]) r1).snoc (cs := .int .i64 2 :: cn) (by rw [List.length_cons, qn]) r2).snoc (cs := .int .i64 3 :: cr) (by rw [List.length_cons, qr]) r3
  simpa [D21] using this
 obtain ⟨ia, il, ib, rfl⟩ : ∃ a n c, xs = .slice a n c := by cases hxs <;> exact ⟨_, _, _, rfl⟩
 have q4 := o4.len
 simp -implicitDefEqProofs (disch := omega) only [allW, zn, Nat.reduceLT, Nat.reduceEqDiff, ↓reduceIte, hn, bDoc q4, zDP, plD]
 refine ze ?_
 intro st htt hstt hnxt
 have hd10 : Tx.length + 1 = 10 := rfl
 have hDs : ye (fun _ => True) ss (.slice none 0 0) tc (.slice ia il ib) _ D21 := ⟨.nil, Foot.of_id (fun j hj => trivial), (o4.keeps k4s).mono (fun _ _ => trivial), by simpa [D21] using hxs.sees, Foot.of_id (fun j hj => trivial), rows⟩
 have hDl := aaj hDs
 have hDo := abb hDs
 simp -implicitDefEqProofs (disch := omega) only [allW, Nat.reduceLT, Nat.reduceEqDiff, ↓reduceIte, hn, hd10]
 refine zi szD (by decide) htt rfl rfl hDl hDo ?_
 intro su htu hnxu hotu
 have htu : zd su ss.next (docC D21 (.slice none 0 0) tc (.slice ia il ib)) := htu
 have ksu : Stay ss.next ss su := hstt.trans ⟨by omega, fun j hj => hotu j (by omega)⟩
 simp -implicitDefEqProofs (disch := omega) only [allW, allR, zc, Nat.reduceLT, ↓reduceIte, hn, xC htu q4]
 refine (UP (fun _ => True) su D21 _ tc _ _ (hDs.keeps ksu) abk).mono ?_
 rintro _ sv ⟨lv, lc, rfl, hlv, hRv, -, -, kv⟩
 obtain ⟨p1, p2⟩ := abj
 have pl1 : (qj D21.items D21.trailer).1.length = 1 := by
  have := congrArg List.length p2
  simpa using this
 obtain ⟨P, hP⟩ : ∃ P, P = (qj D21.items D21.trailer).1 := ⟨_, rfl⟩
 rw [← hP] at p2 pl1 hlv hRv
 rw [p1]
 match P, pl1 with
 | [p], _ =>
 have p2 : [(p.num, p.media)] = [(3, [0, 0, 900000, 900000])] := p2
 simp only [List.cons.injEq, Prod.mk.injEq, and_true] at p2
 obtain ⟨pn, pm⟩ := p2
 have h0r : PgIs (fun _ => True) sv ((lc.drop (0 * 20)).take 20) p := hRv.row 0 (by simp)
 have hll : lc.length = 20 := hRv.len
 have hlc : (lc.drop (0 * 20)).take 20 = lc := by rw [Nat.zero_mul, List.drop_zero, List.take_of_length_le (by omega)]
 rw [hlc] at h0r
 obtain ⟨rc, oc, ec, hm4, hc4, hrc, hoc⟩ := h0r.eqC
 have hlv : Sees sv 20 lv 1 lc := hlv
 have hix := hlv.indexAddr (P := Try.prog) (k := .i64) (x := (0 : Int)) Try.underlying23 szPg (by omega) (by omega)
 have hix : yp Try.prog 23 lv (.int .i64 0) = some (zL 20 lv 0) := hix
 obtain ⟨f0, f1, f2⟩ := efP hlv (k := 0) (by omega)
 have hln := hlv.loadField (P := Try.prog) zT (k := 0) (j := 14) (by omega) (by omega)
 have hlb := hlv.loadPart (P := Try.prog) agBx szBx (k := 0) (j := 0) (by omega) (by omega)
 have e14 : lc.getD (0 * 20 + 14) undef = .int .i64 3 := by rw [ec]; have := Qe (m := p.media) (c := p.crop) (r := p.rotate) (n := p.num) (oc := oc) hm4 hc4 hrc.len; rw [pn] at this ⊢; exact this
 have eB : (lc.drop (0 * 20 + 0)).take 4 = i64V [0, 0, 900000, 900000] := by rw [ec]; have := jP (m := p.media) (c := p.crop) (r := p.rotate) (n := p.num) (rc := rc) (oc := oc) hm4; rw [pm] at this ⊢; exact this
 rw [e14] at hln
 rw [eB] at hlb
 have bq : binA Try.prog .eql 37 (.agg (i64V [0, 0, 900000, 900000]).toArray) (.agg #[.int .i64 0, .int .i64 0, .int .i64 900000, .int .i64 900000]) = some (.bool true) := boxEqP rfl
 have hlen := hlv.lenA (P := Try.prog) (s2 := sv) Try.underlying23
 have c0 : ((0 : Nat) : Int) = 0 := rfl
 have c1 : ((1 : Nat) : Int) = 1 := rfl
 simp -implicitDefEqProofs (disch := omega) only [allW, allR, zh, zc, zn, Nat.reduceLT, Nat.reduceEqDiff, ↓reduceIte, allW, allR, zj, zh, zc, zn, Nat.reduceLT, Nat.reduceEqDiff, ↓reduceIte, hn, ext0, ext1, c0, c1, hlen, hix, f0, f1, f2, hln, hlb, b4Bx, bq, Try.results7]
 exact k0s.trans ((ksu.trans (kv.weaken ksu.next)).weaken (by have := k0s.next; omega))
end Go.Proofs.Ytokfoagohblkoaa