import Derived.Test.YtokfoagohblkoaaPgC
import Derived.Test.YtokfoagohblkoaaBuild
import Derived.Test.YtokfoagohblkoaaMapJ
import Derived.Test.YtokfoagohblkoaaLibR
set_option linter.unusedSimpArgs false
set_option linter.unusedVariables false
set_option maxRecDepth 100000
namespace Go.Cl
def ks (e : Int × Int) : List Value := [.int .i64 e.1, .int .i64 e.2, .slice none 0 0, .slice none 0 0, .slice none 0 0]
def rC (l : List (Int × Int)) : List Value := l.flatMap ks
def rO (l : List (Int × Int)) : List O := l.map fun e => .mk e.1 e.2 [] [] []
theorem abg (e : Int × Int) (l : List (Int × Int)) : rC (e :: l) = ks e ++ rC l := rfl
theorem Jy : ∀ l : List (Int × Int), (rC l).length = l.length * 5
 | [] => rfl
 | e :: l => by rw [abg, List.length_append, Jy l, List.length_cons]; show 5 + _ = _; omega
theorem SI : ∀ (l : List (Int × Int)) (i : Nat) (h : i < l.length), ((rC l).drop (i * 5)).take 5 = ks l[i]
 | e :: l, 0, _ => rfl
 | e :: l, i + 1, h => by
  rw [show (i + 1) * 5 = i * 5 + 5 by omega]
  exact SI l i (by simpa using h)
theorem abh (F : Nat -> Prop) (s : ASt) (l : List (Int × Int)) : zt OIs 5 F s (rO l) (rC l) :=
 ⟨by rw [Jy]; simp [rO], fun i hi => by
  have hi' : i < l.length := by simpa [rO] using hi
  rw [SI l i hi']
  have : (rO l)[i] = .mk l[i].1 l[i].2 [] [] [] := by simp [rO]
  rw [this]
  exact OIs.bare F s _ _⟩
theorem Uc (l : List (Int × Int)) : ∀ x ∈ rO l, zu x := by
 intro x hx
 simp only [rO, List.mem_map] at hx
 obtain ⟨e, -, rfl⟩ := hx
 exact zu.bare _ _
namespace LB
open LA
variable {P : Program} {lib : zm} {A : Nat -> Bool} {g : Nat} {all r : List Oper} {id : Nat} {f : AFr} {T : ASt} {d : Option Tmp} {Q : AFr -> ASt -> Prop}
end LB
end Go.Cl
namespace Go.Proofs.Ytokfoagohblkoaa
open Go.Cl Go.Lib Go.RowKit Go.ChangeShapes Go.WideShapes
theorem Xm (s : ASt) (n : Int) : Runs Try.prog libN 12 [.int .i64 n] s fun v s' => v = .agg (ks (2, n)).toArray ∧ Stay s.next s s' := by
 refine Runs.enter 5 Try.func12 rfl rfl rfl rfl ?_
 intro f hn hf
 have h0 : f.get 0 = .int .i64 n := hf 0
 clear hf
 simp -implicitDefEqProofs (disch := omega) only [allW, allR, zh, zc, zn, optA, Nat.reduceLT, Nat.reduceLeDiff, Nat.reduceEqDiff, Nat.reduceAdd, ↓reduceIte, hn, zO, plO]
 refine ze ?_
 intro s1 ht1 hst1 hnx1
 have hd6 : zG.length + 1 = 6 := rfl
 simp -implicitDefEqProofs (disch := omega) only [allW, allR, zh, zc, zn, optA, Nat.reduceLT, Nat.reduceLeDiff, Nat.reduceEqDiff, Nat.reduceAdd, ↓reduceIte, hn, h0, hd6, bO]
 refine zi szO (by decide) ht1 rfl rfl rfl rfl ?_
 intro s2 ht2 hnx2 hot2
 simp -implicitDefEqProofs (disch := omega) only [allW, allR, zj, zP, zh, zc, zn, optA, Nat.reduceLT, Nat.reduceLeDiff, Nat.reduceEqDiff, Nat.reduceAdd, ↓reduceIte, hn, zd.loadO ht2 rfl, zy, Try.results12]
 exact ⟨rfl, hst1.trans ⟨by omega, fun j hj => hot2 j (by omega)⟩⟩
theorem abi (s : ASt) (a b c d : Int × Int) : zX Try.prog s 28 4 [(0, .agg (ks a).toArray), (1, .agg (ks b).toArray), (2, .agg (ks c).toArray), (3, .agg (ks d).toArray)] = zM s (rC [a, b, c, d]) 4 5 := by
 unfold zX; rw [Try.underlying28]; simp only [szO, zO]; rfl
end Go.Proofs.Ytokfoagohblkoaa