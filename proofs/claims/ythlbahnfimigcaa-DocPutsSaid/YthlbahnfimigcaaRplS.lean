import Derived.Test.YthlbahnfimigcaaProg
import Derived.Test.YthlbahnfimigcaaChecked
import Derived.Shelf.RegionOpenPlain
import Derived.WalkKit
import Derived.Lib.Walk
import Derived.Lib.SliceRun
import Derived.Lib.JoinLaws
import Derived.Lib.AppendZeros
import Derived.Lib.Overlaps
import Derived.Laws.Externs
import Derived.Laws.IdiomCopy
import Derived.KernelRfl
import Derived.Deep.QuietTactic
import Derived.BigQuiet
import Derived.Test.YthlbahnfimigcaaPrim
import Derived.Test.YthlbahnfimigcaaMem
import Derived.Deep.Draws
import Derived.Test.YthlbahnfimigcaaDocE
import Derived.Shelf.Abstract
import Derived.Test.YthlbahnfimigcaaLibR
import Derived.Test.YthlbahnfimigcaaAgg
set_option linter.unusedSimpArgs false
set_option linter.unusedVariables false
set_option maxRecDepth 100000
namespace Go.Proofs.Ythlbahnfimigcaa
open Go.Proofs Go.Shelf Go.RowKit Go.Lib
theorem wp_copy_runI {P : Program} (w : World) {o : Oper} {a : Act} {K : Act -> World -> Prop} {Q : Exit -> Act -> World -> Prop} (d s : Operand) (t t' : TypeId)
  (ho : o.op = .call { callee := .builtin .copy, args := #[d, s], argTypes := #[t, t'] }) (v u : Value) (hd : a.eval d = v) (hs : a.eval s = u) {v' : Value} {w' : World}
  (hr : (Builtin.copy_ #[t, t'] o.type #[v, u]).run P w = .ok v' w') (h : K (a.put o.dst v') w') : o.wp P a w K Q := by
 unfold Oper.wp execOp
 simp only [ho, resolve, invoke, builtin, Sem.run_bind, Sem.run_pure, Result.andThen_ok, List.map_toArray, List.map_cons, List.map_nil, hd, hs, hr]
 exact h
theorem wpList_copy_runI {P : Program} (w : World) {ops : Array Oper} {rest : List Oper} {o : Oper} {a : Act} {Q : Exit -> Act -> World -> Prop} (hgd : o.guard = none) (d s : Operand) (t t' : TypeId)
  (ho : o.op = .call { callee := .builtin .copy, args := #[d, s], argTypes := #[t, t'] }) (v u : Value) (hd : a.eval d = v) (hs : a.eval s = u) {v' : Value} {w' : World}
  (hr : (Builtin.copy_ #[t, t'] o.type #[v, u]).run P w = .ok v' w') (h : wpList P ops Q rest (a.put o.dst v') w') : wpList P ops Q (o :: rest) a w :=
 wpList_plain hgd fun _ hK => wp_copy_runI w d s t t' ho v u hd hs hr (hK _ _ h)
theorem step_copy_runI {P : Program} {ops : Array Oper} {o : Oper} {a : Act} {w : World} {K : Act -> World -> Prop} {Q : Exit -> Act -> World -> Prop} {E : Prop}
  (hg : o.guard = none) (d x : Operand) (dT sT : TypeId) (hop : o.op = Op.call { callee := Callee.builtin Builtin.copy, args := #[d, x], argTypes := #[dT, sT] })
  (v u : Value) (hd : a.eval d = v) (hx : a.eval x = u) {v' : Value} {w' : World} (hr : (Builtin.copy_ #[dT, sT] o.type #[v, u]).run P w = .ok v' w') (hK : K (a.put o.dst v') w') :
  if Region.wanted o (yielded ops a.tmps) = true then Oper.wp P o a w K Q else E := by
 have hw : Region.wanted o (yielded ops a.tmps) = true := by simp [Region.wanted, hg]
 rw [if_pos hw]
 unfold Oper.wp
 simp [execOp, hop, resolve, invoke, builtin, hd, hx, hr, Result.andThen]
 exact hK
theorem zRp : ∀ w, (Go.sizeOf 55).run Try.prog w = .ok 6 w := fun w => by
  have h : (Try.prog.info? 55).map (·.size) = some 6 := by kernel_rfl
  cases hq : Try.prog.info? 55 with
  | none => simp [hq] at h
  | some q => simp [hq] at h; simp [Go.sizeOf, typeInfo, hq, h]
theorem mixedR : Try.prog.follows .mixedOrders = true := by kernel_rfl
set_option maxHeartbeats 4000000 in
set_option maxRecDepth 100000 in
theorem ins_shift (b off n c i vb voff vc : Nat) (W1 W2 : World) (w : World) (hi : i < n) (hroom : n + 1 ≤ c) (hn6 : n ≤ 1000000)
  (hov : ∀ lb cb, (callFunc 75 #[.slice (some ⟨vb, voff, none⟩) 1 vc, .slice (some ⟨b, off + (i + 1) * 6, none⟩) lb cb]).run Try.prog w = .ok (.value (.bool false)) w)
  (hcp1 : ∀ dc sc, (Builtin.copy_ #[27, 27] 3 #[.slice (some ⟨b, off + (i + 1) * 6, none⟩) (n - i) dc, .slice (some ⟨b, off + i * 6, none⟩) (n + 1 - i) sc]).run Try.prog w.drew = .ok (goInt (n - i : Nat)) W1)
  (hcp2 : ∀ dc, (Builtin.copy_ #[27, 27] 3 #[.slice (some ⟨b, off + i * 6, none⟩) (n + 1 - i) dc, .slice (some ⟨vb, voff, none⟩) 1 vc]).run Try.prog W1 = .ok (goInt 1) W2) :
  Calls Try.prog 74 #[.slice (some ⟨b, off, none⟩) n c, .int .i64 i, .slice (some ⟨vb, voff, none⟩) 1 vc] w fun e w' =>
   e = .returned (.slice (some ⟨b, off, none⟩) (n + 1) c) ∧ w' = W2 := by
 have t27 := Try.underlying27
 have zRp := zRp
 have mixed := mixedR
 have hz1 : ¬ ((1 : Int) = 0) := by omega
 have hz2 : ¬ ((i : Int) = (n : Int)) := by omega
 have hw1 : IntKind.i64.wrap ((i : Int) + 1) = (i : Int) + 1 := by rw [IntKind.wrap_i64]; omega
 have hw2 : IntKind.i64.wrap ((n : Int) + 1) = (n : Int) + 1 := by rw [IntKind.wrap_i64]; omega
 have hb1 : (0 : Int) ≤ (i : Int) + 1 := by omega
 have hin : i ≤ n := by omega
 have htn : ((i : Int) + 1).toNat = i + 1 := by omega
 have htn2 : ((n : Int) + 1).toNat = n + 1 := by omega
 have hb2 : ¬ (c = i + 1) := by omega
 have hb3 : (i : Int) ≤ (n : Int) := by omega
 have hb4 : ¬ (c = i) := by omega
 have hb5 : (i : Int) ≤ (n : Int) + 1 := by omega
 go_enter Try.func74, Try.ntmps74
 go_wp2_with (simp only [hov])
 go_region_law_o (refine step_copy_runI rfl _ _ 27 27 rfl _ _ (by simp [Act.eval, Act.put]) (by simp [Act.eval, Act.put]) (hcp1 _ _) ?_)
 go_wp2_with (at_builtin; refine wpList_copy_runI _ rfl _ _ 27 27 rfl _ _ rfl rfl (hcp2 _) ?_)
 go_ret
 exact ⟨rfl, rfl⟩
set_option maxHeartbeats 4000000 in
set_option maxRecDepth 100000 in
theorem ins_endN (vb voff vc : Nat) (R : Value) (W1 w : World)
  (hap : (Builtin.append_ #[27, 27] 27 #[.slice none 0 0, .slice (some ⟨vb, voff, none⟩) 1 vc]).run Try.prog w = .ok R W1) :
  Calls Try.prog 74 #[.slice none 0 0, .int .i64 (0 : Nat), .slice (some ⟨vb, voff, none⟩) 1 vc] w fun e w' => e = .returned R ∧ w' = W1 := by
 have t27 := Try.underlying27
 have zRp := zRp
 have mixed := mixedR
 have hz1 : ¬ ((1 : Int) = 0) := by omega
 go_enter Try.func74, Try.ntmps74
 go_wp2_with (at_builtin; refine Lib.wpList_append_run _ rfl _ _ _ _ rfl _ _ rfl rfl _ _ hap ?_)
 all_goals (go_ret; exact ⟨rfl, rfl⟩)
set_option maxHeartbeats 4000000 in
set_option maxRecDepth 100000 in
theorem ins_end (b off n c vb voff vc : Nat) (R : Value) (W1 w : World)
  (hap : (Builtin.append_ #[27, 27] 27 #[.slice (some ⟨b, off, none⟩) n c, .slice (some ⟨vb, voff, none⟩) 1 vc]).run Try.prog w = .ok R W1) :
  Calls Try.prog 74 #[.slice (some ⟨b, off, none⟩) n c, .int .i64 n, .slice (some ⟨vb, voff, none⟩) 1 vc] w fun e w' => e = .returned R ∧ w' = W1 := by
 have t27 := Try.underlying27
 have zRp := zRp
 have mixed := mixedR
 have hz1 : ¬ ((1 : Int) = 0) := by omega
 go_enter Try.func74, Try.ntmps74
 go_wp2_with (at_builtin; refine Lib.wpList_append_run _ rfl _ _ _ _ rfl _ _ rfl rfl _ _ hap ?_)
 all_goals (go_ret; exact ⟨rfl, rfl⟩)
set_option maxHeartbeats 4000000 in
set_option maxRecDepth 100000 in
theorem ins_grow (b off n c i vb voff vc k G : Nat) (W1 W2 W3 : World) (w : World) (hi : i < n) (hnc : n ≤ c) (hroom : c < n + 1) (hG : n + 1 ≤ G) (hn6 : n ≤ 1000000)
  (hap : (Builtin.append_ #[27, 3] 27 #[.slice (some ⟨b, off, none⟩) i c, .int .i64 ((n : Int) + 1 - (i : Int))]).run Try.prog w = .ok (.slice (some ⟨k, 0, none⟩) (n + 1) G) W1)
  (hcp1 : ∀ dc, (Builtin.copy_ #[27, 27] 3 #[.slice (some ⟨k, i * 6, none⟩) (n + 1 - i) dc, .slice (some ⟨vb, voff, none⟩) 1 vc]).run Try.prog W1 = .ok (goInt 1) W2)
  (hcp2 : ∀ dc sc, (Builtin.copy_ #[27, 27] 3 #[.slice (some ⟨k, (i + 1) * 6, none⟩) (n - i) dc, .slice (some ⟨b, off + i * 6, none⟩) (n - i) sc]).run Try.prog W2.drew = .ok (goInt (n - i : Nat)) W3) :
  Calls Try.prog 74 #[.slice (some ⟨b, off, none⟩) n c, .int .i64 i, .slice (some ⟨vb, voff, none⟩) 1 vc] w fun e w' => e = .returned (.slice (some ⟨k, 0, none⟩) (n + 1) G) ∧ w' = W3 := by
 have t27 := Try.underlying27
 have zRp := zRp
 have mixed := mixedR
 have hz1 : ¬ ((1 : Int) = 0) := by omega
 have hz2 : ¬ ((i : Int) = (n : Int)) := by omega
 have hz3 : (c : Int) < (n : Int) + 1 := by omega
 have hw1 : IntKind.i64.wrap ((i : Int) + 1) = (i : Int) + 1 := by rw [IntKind.wrap_i64]; omega
 have hw2 : IntKind.i64.wrap ((n : Int) + 1) = (n : Int) + 1 := by rw [IntKind.wrap_i64]; omega
 have hw3 : IntKind.i64.wrap ((n : Int) + 1 - (i : Int)) = (n : Int) + 1 - (i : Int) := by rw [IntKind.wrap_i64]; omega
 have hb1 : (0 : Int) ≤ (i : Int) + 1 := by omega
 have hin : i ≤ n := by omega
 have htn : ((i : Int) + 1).toNat = i + 1 := by omega
 have htn2 : ((n : Int) + 1).toNat = n + 1 := by omega
 have hGi : ¬ (G = i) := by omega
 have hGim : ¬ (G = i + 1) := by omega
 have hci : ¬ (c = i) := by omega
 have hb3 : (i : Int) ≤ (n : Int) := by omega
 have hb5 : (i : Int) ≤ (n : Int) + 1 := by omega
 go_enter Try.func74, Try.ntmps74
 go_wp2_with (first
  | (at_builtin; refine Lib.wpList_append_run _ rfl _ _ _ _ rfl _ _ rfl rfl _ _ hap ?_)
  | (at_builtin; refine wpList_copy_runI _ rfl _ _ 27 27 rfl _ _ rfl rfl (hcp1 _) ?_))
 go_region_law_o (refine step_copy_runI rfl _ _ 27 27 rfl _ _ (by simp [Act.eval, Act.put]) (by simp [Act.eval, Act.put]) (hcp2 _ _) ?_)
 go_wp2
 go_ret
 exact ⟨rfl, rfl⟩
set_option maxHeartbeats 4000000 in
set_option maxRecDepth 100000 in
theorem rep_end (b off i c vb voff vc c2 : Nat) (a2 : Addr) (W1 w : World) (hnc : i + 1 ≤ c)
  (hap : (Builtin.append_ #[27, 27] 27 #[.slice (some ⟨b, off, none⟩) i c, .slice (some ⟨vb, voff, none⟩) 1 vc]).run Try.prog w = .ok (.slice (some a2) (i + 1) c2) W1) :
  Calls Try.prog 57 #[.slice (some ⟨b, off, none⟩) (i + 1) c, .int .i64 i, .int .i64 ((i : Int) + 1), .slice (some ⟨vb, voff, none⟩) 1 vc] w fun e w' => e = .returned (.slice (some a2) (i + 1) c2) ∧ w' = W1 := by
 have t27 := Try.underlying27
 have zRp := zRp
 have mixed := mixedR
 have hz2 : ¬ ((i : Int) = (i : Int) + 1) := by omega
 have hb1 : (0 : Int) ≤ (i : Int) + 1 := by omega
 have hb3 : (i : Int) ≤ (i : Int) + 1 := by omega
 have htn : ((i : Int) + 1).toNat = i + 1 := by omega
 have hci : ¬ (c = i) := by omega
 have hin : i ≤ i + 1 := by omega
 go_enter Try.func57, Try.ntmps57
 go_wp2_with (at_builtin; refine Lib.wpList_append_run _ rfl _ _ _ _ rfl _ _ rfl rfl _ _ hap ?_)
 all_goals (go_ret; exact ⟨rfl, rfl⟩)
set_option maxHeartbeats 4000000 in
set_option maxRecDepth 100000 in
theorem rep_mid (b off n i c vb voff vc : Nat) (W1 W2 : Nat -> World) (V1 V2 : Nat -> Value) (w : World) (hi : i + 1 < n) (hnc : n ≤ c) (hn6 : n ≤ 1000000)
  (hcp1 : ∀ q dc, (Builtin.copy_ #[27, 27] 3 #[.slice (some ⟨b, off + i * 6, none⟩) (n - i) dc, .slice (some ⟨vb, voff, none⟩) 1 vc]).run Try.prog (w.drewN q) = .ok (V1 q) (W1 q))
  (hcp2 : ∀ q dc sc, (Builtin.copy_ #[27, 27] 3 #[.slice (some ⟨b, off + (i + 1) * 6, none⟩) (n - (i + 1)) dc, .slice (some ⟨b, off + (i + 1) * 6, none⟩) (n - (i + 1)) sc]).run Try.prog (W1 q).drew = .ok (V2 q) (W2 q))
  (hcl : ∀ q ty x cc, (Builtin.clear_ #[27] ty #[.slice x 0 cc]).run Try.prog (W2 q) = .ok undef (W2 q)) :
  Calls Try.prog 57 #[.slice (some ⟨b, off, none⟩) n c, .int .i64 i, .int .i64 ((i : Int) + 1), .slice (some ⟨vb, voff, none⟩) 1 vc] w fun e w' => e = .returned (.slice (some ⟨b, off, none⟩) n c) ∧ ∃ q, w' = W2 q := by
 have t27 := Try.underlying27
 have zRp := zRp
 have mixed := mixedR
 have hz2 : ¬ ((i : Int) = (i : Int) + 1) := by omega
 have hz3 : ¬ ((i : Int) + 1 = (n : Int)) := by omega
 have hw1 : IntKind.i64.wrap ((i : Int) + 1) = (i : Int) + 1 := by rw [IntKind.wrap_i64]; omega
 have hw2 : ((n - (i + 1) : Nat) : Int) = (n : Int) - ((i : Int) + 1) := by omega
 have hw3 : IntKind.i64.wrap ((i : Int) + 1 + ((n - (i + 1) : Nat) : Int)) = (n : Int) := by rw [IntKind.wrap_i64]; omega
 have hb1 : (0 : Int) ≤ (i : Int) + 1 := by omega
 have hb3 : (i : Int) ≤ (i : Int) + 1 := by omega
 have hb4 : (i : Int) + 1 ≤ (n : Int) := by omega
 have hb6 : (i : Int) ≤ (n : Int) := by omega
 have hb5 : ¬ ((c : Int) < (n : Int)) := by omega
 have hb7 : (n : Int) ≤ (c : Int) := by omega
 have htn : ((i : Int) + 1).toNat = i + 1 := by omega
 have hci : ¬ (c = i) := by omega
 have htot : (i : Int) + 1 + ((n : Int) - ((i : Int) + 1)) = (n : Int) := by omega
 have hci1 : ¬ (c = i + 1) := by omega
 have hin : i ≤ n := by omega
 have hic : i ≤ c := by omega
 have hic1 : i + 1 ≤ c := by omega
 have hin1 : i + 1 ≤ n := by omega
 go_enter Try.func57, Try.ntmps57
 go_wp2
 go_quiet (fail)
 go_wp2_with (at_builtin; refine wpList_copy_runI _ rfl _ _ 27 27 rfl _ _ rfl rfl (hcp1 _ _) ?_)
 all_goals (go_region_law_o (refine step_copy_runI rfl _ _ 27 27 rfl _ _ (by simp [Act.eval, Act.put]) (by simp [Act.eval, Act.put]) (hcp2 _ _ _) ?_))
 all_goals go_wp2
 all_goals exact ⟨rfl, _, results_tmp rfl _ _ _, rfl, _, rfl⟩
set_option maxHeartbeats 4000000 in
set_option maxRecDepth 100000 in
theorem rep_ins (b off n c i vb voff vc : Nat) (w : World) (hi : i ≤ n) (hnc : n ≤ c) (hn6 : n ≤ 1000000) {Q : Value -> World -> Prop}
  (hC : Calls Try.prog 74 #[.slice (some ⟨b, off, none⟩) n c, .int .i64 i, .slice (some ⟨vb, voff, none⟩) 1 vc] w fun e w' => ∃ R, e = .returned R ∧ Q R w') :
  Calls Try.prog 57 #[.slice (some ⟨b, off, none⟩) n c, .int .i64 i, .int .i64 i, .slice (some ⟨vb, voff, none⟩) 1 vc] w fun e w' => ∃ R, e = .returned R ∧ Q R w' := by
 have t27 := Try.underlying27
 have zRp := zRp
 have mixed := mixedR
 have hic : i ≤ c := by omega
 have hcc : (n : Int) ≤ (c : Int) := by omega
 have hii : (i : Int) ≤ (c : Int) := by omega
 by_cases hci : c = i
 ·subst hci
  go_enter Try.func57, Try.ntmps57
  go_wp2_with fail
  refine Calls.mono hC ?_
  rintro e w' ⟨R, rfl, hq⟩
  go_wp2
  all_goals exact ⟨rfl, _, results_tmp rfl _ _ _, R, rfl, hq⟩
 ·go_enter Try.func57, Try.ntmps57
  go_wp2_with fail
  refine Calls.mono hC ?_
  rintro e w' ⟨R, rfl, hq⟩
  go_wp2
  all_goals exact ⟨rfl, _, results_tmp rfl _ _ _, R, rfl, hq⟩
set_option maxHeartbeats 4000000 in
set_option maxRecDepth 100000 in
theorem rep_insN (vb voff vc : Nat) (w : World) {Q : Value -> World -> Prop}
  (hC : Calls Try.prog 74 #[.slice none 0 0, .int .i64 (0 : Nat), .slice (some ⟨vb, voff, none⟩) 1 vc] w fun e w' => ∃ R, e = .returned R ∧ Q R w') :
  Calls Try.prog 57 #[.slice none 0 0, .int .i64 (0 : Nat), .int .i64 (0 : Nat), .slice (some ⟨vb, voff, none⟩) 1 vc] w fun e w' => ∃ R, e = .returned R ∧ Q R w' := by
 have t27 := Try.underlying27
 have zRp := zRp
 have mixed := mixedR
 go_enter Try.func57, Try.ntmps57
 go_wp2_with fail
 refine Calls.mono hC ?_
 rintro e w' ⟨R, rfl, hq⟩
 go_wp2
 all_goals exact ⟨rfl, _, results_tmp rfl _ _ _, R, rfl, hq⟩
end Go.Proofs.Ythlbahnfimigcaa
namespace Go.Cl
def replM (s : ASt) (z i off n c j off2 c2 p : Nat) : Option (Value × ASt) :=
 match s.cellsAt i off c (n * z), s.cellsAt j off2 c2 (1 * z), s.blk? i, s.blk? j with
 | some old, some new, some b, some bj =>
  if b.own && bj.own && Nat.ble b.low c && Nat.beq b.esz z && Nat.beq bj.esz z && !(Nat.beq i j) && old.all okCell && new.all okCell && Nat.blt 0 z then
   newSlice (s.put i (.blk (kill b))) (old.take (p * z) ++ (new ++ old.drop (p * z))) (n + 1) z
  else none
 | _, _, _, _ => none
def replI (P : Program) (t : TypeId) (s : ASt) (z i off n c j off2 c2 p : Nat) : Option (Value × ASt) :=
 match copyA P s t (.slice (some ⟨i, off + p * z, none⟩) (n - p) c) (.slice (some ⟨j, off2, none⟩) 1 c2) with
 | some (_, s1) =>
  match copyA P s1 t (.slice (some ⟨i, off + (p + 1) * z, none⟩) (n - (p + 1)) c) (.slice (some ⟨i, off + (p + 1) * z, none⟩) (n - (p + 1)) c) with
  | some (_, s2) => some (.slice (some ⟨i, off, none⟩) n c, s2)
  | none => none
 | none => none
def pRepl (P : Program) (t : TypeId) (z : Nat) : Prim := fun args s =>
 match args with
 | [.slice a n c, .int .i64 (.ofNat p), .int .i64 (.ofNat q), .slice (some ⟨j, off2, none⟩) 1 c2] =>
  match s.cellsAt j off2 c2 (1 * z), a with
  | some _, none => if Nat.beq n 0 && Nat.beq p 0 && Nat.beq q 0 then appendA P s t t (.slice none 0 c) (.slice (some ⟨j, off2, none⟩) 1 c2) else none
  | some _, some ⟨i, off, none⟩ =>
   match s.cellsAt i off c (n * z) with
   | some _ =>
    if Nat.ble n 1000000 && Nat.blt 0 n && eszIs s i c z then
     if Nat.beq q n then
      if Nat.beq p q || Nat.beq (p + 1) q then appendA P s t t (.slice (some ⟨i, off, none⟩) p c) (.slice (some ⟨j, off2, none⟩) 1 c2) else none
     else if Nat.beq q (p + 1) && Nat.blt q n then replI P t s z i off n c j off2 c2 p
     else if Nat.beq q p && Nat.blt q n then replM s z i off n c j off2 c2 p
     else none
    else none
   | none => none
  | _, _ => none
 | _ => none
theorem pRepl_fr (P : Program) (t : TypeId) (z : Nat) : PrimFr (pRepl P t z) := by
 intro s s' X args v u h hw hp
 unfold pRepl at *
 split at hp
 case h_2 => cases hp
 split at hp
 ·rename_i g1
  rw [h.cells g1]
  simp only
  split at hp
  ·rename_i hc; rw [if_pos hc]; exact appendA_fr h hw hp
  ·cases hp
 ·rename_i g1
  rw [h.cells g1]
  simp only
  split at hp
  case h_2 => cases hp
  rename_i g2
  rw [h.cells g2]
  simp only
  split at hp
  case isFalse => cases hp
  rename_i hn
  simp only [Bool.and_eq_true] at hn
  rw [hn.1.1, hn.1.2, eszIs_fr h hn.2]
  simp only [Bool.and_self, if_true]
  split at hp
  ·rename_i hq
   rw [if_pos hq]
   split at hp
   ·rename_i hc; rw [if_pos hc]; exact appendA_fr h hw hp
   ·cases hp
  ·rename_i hq
   rw [if_neg hq]
   split at hp
   ·rename_i h1
    rw [if_pos h1]
    unfold replI at *
    split at hp
    case h_2 => cases hp
    rename_i s1 e1
    obtain ⟨s1', k1, k2, k3⟩ := copyA_fr h hw e1
    rw [k1]
    simp only
    split at hp
    case h_2 => cases hp
    rename_i s2 e2
    obtain ⟨s2', k4, k5, k6⟩ := copyA_fr k2 k3.wf e2
    rw [k4]
    simp only
    injection hp with hp; injection hp with q1 q2; subst q1; subst q2
    exact ⟨_, rfl, k5, k3.trans k6⟩
   ·rename_i h1
    rw [if_neg h1]
    split at hp
    case isFalse => cases hp
    rename_i h2
    rw [if_pos h2]
    unfold replM at *
    split at hp
    case h_2 => cases hp
    rename_i old new b bj g1 g2 g3 g4
    rw [h.cells g1, h.cells g2, h.blk g3, h.blk g4]
    simp only
    split at hp
    case isFalse => cases hp
    rename_i hc
    rw [if_pos hc]
    obtain ⟨a1, a2⟩ := h.put (o := .blk (Cl.kill b)) hw (get_of_blk g3)
    obtain ⟨t', k1, k2, k3⟩ := newSlice_fr a1 a2.wf hp
    exact ⟨t', k1, k2, a2.trans k3⟩
 ·cases hp
theorem Good.drawnR {base : Nat} {S : St} (h : SR base S) (n : Nat) : Good base S ⟨S.s, S.e, S.w.drewN n⟩ := by
 have hext : Ext S ⟨S.s, S.e, S.w.drewN n⟩ := ⟨fun _ b hb => ⟨b, hb, Nat.le_refl _, Nat.le_refl _, rfl, fun _ _ _ => rfl⟩, fun _ es he => ⟨⟨es, he⟩, rfl⟩, fun _ arr _ fr hk => ⟨arr, fr, hk, rfl⟩⟩
 refine ⟨⟨h.room, h.bound, h.low, fun i b hb c hc p hp => ?_, h.own, fun r es he => ?_, h.mapInj, h.size, h.inb⟩, hext, ⟨rfl, rfl, rfl, Nat.le_refl _, fun _ _ => rfl⟩⟩
 ·obtain ⟨v, h1, h2⟩ := h.cell i b hb c hc p hp
  exact ⟨v, h1, h2.mono hext⟩
 ·obtain ⟨h1, es', clk, h2, h3⟩ := h.map r es he
  exact ⟨h1, es', clk, h2, h3.mono hext⟩
theorem SR.listed {base : Nat} {S : St} (h : SR base S) {i off c n : Nat} {l : List Value} (hc : S.s.cellsAt i off c n = some l) :
  ∃ l', VRL S l l' ∧ l'.length = n ∧ ∀ p v, l'[p]? = some v -> S.w.cell? ⟨(S.e.loc i c).1, (S.e.loc i c).2 + off + p, none⟩ = some v := by
 obtain ⟨b, _, _, _, _, hl, hv, hcc⟩ := h.cells hc
 refine ⟨_, hv, conc_length _ _ _ _, fun p v hp => ?_⟩
 have hlt : p < n := by
  have := (List.getElem?_eq_some_iff.1 hp).1
  rwa [conc_length] at this
 obtain ⟨u, hu⟩ := hcc p hlt
 have := conc_getD S.w (S.e.loc i c).1 ((S.e.loc i c).2 + off) n p hlt
 rw [List.getD_eq_getElem?_getD, hp, hu] at this
 simp at this
 rw [hu, this]
end Go.Cl
namespace Go.Cl
open Go.RowKit
theorem run_copy_z {P : Program} (w : World) {dT sT ty e : TypeId} {z k o dLen dCap : Nat} {a : Addr} {sLen sCap : Nat} {cs : List Value} {arr : Array Value} {E : TypeId} {fr : Nat × Nat}
  (hu : P.underlying dT = some (.slice e)) (hz : sizeB P e = some z) (hn : cs.length = min sLen dLen * z) (hsrc : ∀ j v, cs[j]? = some v -> w.cell? (a.add j) = some v)
  (hk : w.heap[k]? = some (.cells arr E fr)) (hfr : fr.1 = fr.2 ∨ arr.size ≤ fr.1) (hfit : o + cs.length ≤ arr.size) (hok : ∀ v ∈ cs, okCell v = true) :
  (Builtin.copy_ #[dT, sT] ty #[.slice (some ⟨k, o, none⟩) dLen dCap, .slice (some a) sLen sCap]).run P w = .ok (goInt (min sLen dLen : Nat)) (setCells w k o cs) := by
 have hl := run_firstCells_some (P := P) (w := w) z (min sLen dLen) a sLen sCap cs hn hsrc
 have hst := run_storeCells P k o cs w 0 arr E fr hk hfr (by omega) hok
 rw [Nat.add_zero] at hst
 have hl2 : (Builtin.firstCells z (Nat.min sLen dLen) (.slice (some a) sLen sCap)).run P w = .ok cs.toArray w := hl
 simp [Builtin.copy_, run_underlying hu, Builtin.lenOf, run_sizeOf hz, hl2, hst]
theorem three_at {a0 a2 : Array Value} {o pz z : Nat} {old new : List Value} (hnew : new.length = z) (hpz : pz ≤ old.length) (h0 : ∀ q, q < pz -> a0[o + q]? = old[q]?)
  (h2 : ∀ q, a2[q]? = if o + pz ≤ q ∧ q < o + pz + new.length then some (new.getD (q - (o + pz)) undef) else if o + (pz + z) ≤ q ∧ q < o + (pz + z) + (old.drop pz).length then some ((old.drop pz).getD (q - (o + (pz + z))) undef) else a0[q]?) :
  ∀ q, q < old.length + z -> a2[o + q]? = (old.take pz ++ (new ++ old.drop pz))[q]? := by
 intro q hq
 have hlt : (old.take pz).length = pz := by rw [List.length_take]; omega
 have hld : (old.drop pz).length = old.length - pz := List.length_drop
 rw [h2]
 by_cases c1 : q < pz
 ·rw [if_neg (by omega), if_neg (by omega), h0 q c1, List.getElem?_append_left (by omega), List.getElem?_take_of_lt c1]
 ·by_cases c2 : q < pz + z
  ·rw [if_pos (by omega), List.getElem?_append_right (by omega), hlt, List.getElem?_append_left (by omega), show o + q - (o + pz) = q - pz by omega, List.getD_eq_getElem?_getD, List.getElem?_eq_getElem (by omega)]
   rfl
  ·rw [if_neg (by omega), if_pos (by omega), List.getElem?_append_right (by omega), hlt, List.getElem?_append_right (by omega), hnew, show o + q - (o + (pz + z)) = q - pz - z by omega, List.getD_eq_getElem?_getD, List.getElem?_eq_getElem (by omega)]
   rfl
theorem Good.reuseW {base : Nat} {S : St} (h : SR base S) (hroom : S.s.room = true) (esz : Nat) {k o : Nat} {arr arr' : Array Value} {E : TypeId} {fr : Nat × Nat} {W : World} (hk : S.w.heap[k]? = some (.cells arr E fr)) (hfr : fr.1 = fr.2 ∨ arr.size ≤ fr.1 ∧ esz = 1)
  (hb : base ≤ k) (hex : ∀ j bj c', S.s.blk? j = some bj -> Live bj c' -> (S.e.loc j c').1 ≠ k) (hW : W.heap[k]? = some (.cells arr' E fr)) (hsz : arr'.size = arr.size) (hne : ∀ j, j ≠ k -> W.heap[j]? = S.w.heap[j]?) (hbel : Below base S.w W)
  {cs : List Value} (hcs : ∀ p, p < cs.length -> ∃ v, arr'[o + p]? = some v ∧ VR S (cs.getD p undef) v) :
  Good base S ⟨S.s.new (.blk ⟨cs, 1, true, esz⟩), ⟨fun j c => if j = S.s.next then (k, o) else S.e.loc j c, S.e.mp⟩, W⟩ := by
 have hlt := room_lt hroom
 obtain ⟨hf1, hf2⟩ := h.fresh
 refine SR.change h S.s.next k (S.s.next + 1) ⟨cs, 1, true, esz⟩ _ _ (by omega) (by omega) (by omega) (.inr rfl) (fun es he => by rw [hf2] at he; cases he) (Nat.le_refl _)
  (fun b hb => by rw [hf1] at hb; cases hb) (fun j hj => by funext c; rw [if_neg hj]) (fun j hj _ => hne j hj) (fun j bj c _ hj hc => hex j bj c hj hc) ?_
  (fun c _ => by simp only [if_true]; have := lt_of_cells hk; have := hbel.size; omega) ?_ ?_ ?_ ?_ hbel hbel.size
 ·intro r es he e
  obtain ⟨_, es', clk, h2, _⟩ := h.map r es he
  rw [e, hk] at h2; cases h2
 ·intro c hc p hp
  have hpl : p < cs.length := by have := hc.2; simp only at this; omega
  simp only [if_true]
  rw [cell_of_block _ _ _ _ _ _ hW]
  exact hcs p hpl
 ·intro _ c _
  simp only [if_true]
  exact ⟨hb, ⟨arr', E, fr, hW, by rw [hsz]; exact hfr⟩, fun j bj _ hj c' hc' => hex j bj c' hj hc', by intros; first | rfl | trivial⟩
 ·intro j bj _ hj _ c' hc' c _ e
  simp only [if_true] at e
  exact hex j bj c' hj hc' e.symm
 ·intro arr0 E0 fr0 hk0
  rw [hk] at hk0
  injection hk0 with hk0; injection hk0 with e1 e2 e3
  subst e1; subst e2
  exact ⟨arr', fr, hW, hsz⟩
theorem VR.there {base : Nat} {S : St} (h : SR base S) {i off n c m : Nat} {l : List Value} {x' : Value} (hx : VR S (.slice (some ⟨i, off, none⟩) n c) x') (hn : 0 < n) (hc : S.s.cellsAt i off c m = some l) :
  ∃ cap, x' = .slice (some ⟨(S.e.loc i c).1, (S.e.loc i c).2 + off, none⟩) n cap ∧ n ≤ cap ∧ (c = 0 -> cap = 0) ∧ RefOk S i off c ⟨(S.e.loc i c).1, (S.e.loc i c).2 + off, none⟩ ∧ CapOk S i c ⟨(S.e.loc i c).1, (S.e.loc i c).2 + off, none⟩ cap := by
 cases hx with
 | slice _ _ _ _ a cap h0 hz hr =>
  obtain ⟨⟨b, hb, hle, hadr⟩, hcap⟩ := hr (by omega)
  obtain ⟨b2, hb2, hlive, _⟩ := h.cells hc
  rw [hb] at hb2; obtain rfl := Option.some.inj hb2
  obtain rfl := hadr hlive.1
  exact ⟨cap, rfl, h0, hz, ⟨b, hb, hle, hadr⟩, hcap⟩
end Go.Cl
set_option linter.unusedSimpArgs false
set_option linter.unusedVariables false
set_option maxRecDepth 100000
namespace Go.Proofs.Ythlbahnfimigcaa
open Go.Cl Go.Lib Go.RowKit Go.Shelf
theorem Same.trans {s t u : ASt} (h : Same s t) (k : Same t u) : Same s u := ⟨k.next.trans h.next, (fun _ _ h => by cases h), fun j => (k.get j).trans (h.get j)⟩
def RplPost (base : Nat) (S : St) (v : Value) (t' : ASt) (R : Value) (w' : World) : Prop := ∃ T, Same t' T.s ∧ T.w = w' ∧ VR T v R ∧ Go.Cl.Good base S T
theorem rpl_end {base : Nat} {S : St} (hs : SR base S) {a : Option Addr} {p c : Nat} {x' y y' v : Value} {t' : ASt} (hx : VR S (.slice a p c) x') (hy : VR S y y') (ha : appendA Try.prog S.s 27 27 (.slice a p c) y = some (v, t')) :
  ∃ (T : St) (v' : Value), (Builtin.append_ #[27, 27] 27 #[x', y']).run Try.prog S.w = .ok v' T.w ∧ RplPost base S v t' v' T.w := by
 obtain ⟨T, v', h1, h2, h3, h4⟩ := appendA_ok (P := Try.prog) hs hx hy ha (ty := 27) (ts := #[27, 27]) (aS := #[x', y']) rfl rfl rfl rfl
 exact ⟨T, v', h2, T, by rw [h1]; exact Same.refl _, rfl, h3, h4⟩
set_option maxHeartbeats 4000000 in
theorem rpl_mid {base : Nat} {S : St} (hs : SR base S) {i off n c j off2 c2 p cap cap2 : Nat} {k o kv ov : Nat} {v : Value} {t' : ASt} (hpn : p + 1 < n) (hn6 : n ≤ 1000000) (hcap : n ≤ cap)
  (hx : ∀ l, l < n -> VR S (.slice (some ⟨i, off + l * 6, none⟩) (n - l) c) (.slice (some ⟨k, o + l * 6, none⟩) (n - l) (cap - l)))
  (hx0 : VR S (.slice (some ⟨i, off, none⟩) n c) (.slice (some ⟨k, o, none⟩) n cap))
  (hy : VR S (.slice (some ⟨j, off2, none⟩) 1 c2) (.slice (some ⟨kv, ov, none⟩) 1 cap2)) (h : replI Try.prog 27 S.s 6 i off n c j off2 c2 p = some (v, t')) :
  Calls Try.prog 57 #[.slice (some ⟨k, o, none⟩) n cap, .int .i64 (p : Nat), .int .i64 ((p : Int) + 1), .slice (some ⟨kv, ov, none⟩) 1 cap2] S.w fun e w' => ∃ R, e = .returned R ∧ RplPost base S v t' R w' := by
 unfold replI at h
 split at h
 case h_2 => cases h
 rename_i u1 s1 g1
 split at h
 case h_2 => cases h
 rename_i u2 s2 g2
 injection h with h; injection h with e1 e2; subst e1; subst e2
 have anyCap : ∀ (W : World) (x : Addr) (m d d' : Nat) (y : Value), (Builtin.copy_ #[27, 27] 3 #[.slice (some x) m d, y]).run Try.prog W = (Builtin.copy_ #[27, 27] 3 #[.slice (some x) m d', y]).run Try.prog W := fun W x m d d' y => rfl
 have anyCap2 : ∀ (W : World) (x z : Addr) (m d q e e' : Nat), (Builtin.copy_ #[27, 27] 3 #[.slice (some x) m d, .slice (some z) q e]).run Try.prog W = (Builtin.copy_ #[27, 27] 3 #[.slice (some x) m d, .slice (some z) q e']).run Try.prog W := fun W x z m d q e e' => rfl
 have st1 : ∀ q, ∃ (T : St) (v' : Value), T.s = s1 ∧ (Builtin.copy_ #[27, 27] 3 #[.slice (some ⟨k, o + p * 6, none⟩) (n - p) (cap - p), .slice (some ⟨kv, ov, none⟩) 1 cap2]).run Try.prog (S.w.drewN q) = .ok v' T.w ∧ VR T u1 v' ∧ Go.Cl.Good base S T := fun q => by
  have hg := Go.Cl.Good.drawnR hs q
  obtain ⟨T, v', h1, h2, h3, h4⟩ := copyA_ok (P := Try.prog) (S := ⟨S.s, S.e, S.w.drewN q⟩) hg.sr ((hx p (by omega)).mono hg.ext) (hy.mono hg.ext) g1 (ty := 3) (ts := #[27, 27]) (aS := #[.slice (some ⟨k, o + p * 6, none⟩) (n - p) (cap - p), .slice (some ⟨kv, ov, none⟩) 1 cap2]) rfl rfl rfl
  exact ⟨T, v', h1, h2, h3, hg.trans h4⟩
 have st2 : ∀ q, ∃ (T1 T : St) (v' v2 : Value), T1.s = s1 ∧ (Builtin.copy_ #[27, 27] 3 #[.slice (some ⟨k, o + p * 6, none⟩) (n - p) (cap - p), .slice (some ⟨kv, ov, none⟩) 1 cap2]).run Try.prog (S.w.drewN q) = .ok v' T1.w ∧ VR T1 u1 v' ∧
   T.s = s2 ∧ (Builtin.copy_ #[27, 27] 3 #[.slice (some ⟨k, o + (p + 1) * 6, none⟩) (n - (p + 1)) (cap - (p + 1)), .slice (some ⟨k, o + (p + 1) * 6, none⟩) (n - (p + 1)) (cap - (p + 1))]).run Try.prog T1.w.drew = .ok v2 T.w ∧ VR T u2 v2 ∧ Go.Cl.Good base S T := fun q => by
  obtain ⟨T1, v', h1, h2, h3, h4⟩ := st1 q
  have hg := Go.Cl.Good.drawnR h4.sr 1
  have hx2 := ((hx (p + 1) (by omega)).mono h4.ext).mono hg.ext
  obtain ⟨T, v2, h5, h6, h7, h8⟩ := copyA_ok (P := Try.prog) (S := ⟨T1.s, T1.e, T1.w.drewN 1⟩) hg.sr hx2 hx2 (by show copyA _ T1.s _ _ _ = _; rw [h1]; exact g2) (ty := 3) (ts := #[27, 27]) (aS := #[.slice (some ⟨k, o + (p + 1) * 6, none⟩) (n - (p + 1)) (cap - (p + 1)), .slice (some ⟨k, o + (p + 1) * 6, none⟩) (n - (p + 1)) (cap - (p + 1))]) rfl rfl rfl
  exact ⟨T1, T, v', v2, h1, h2, h3, h5, h6, h7, (h4.trans hg).trans h8⟩
 obtain ⟨T1, T, V1, V2, F⟩ : ∃ (T1 T : Nat -> St) (V1 V2 : Nat -> Value), ∀ q, (T1 q).s = s1 ∧ (Builtin.copy_ #[27, 27] 3 #[.slice (some ⟨k, o + p * 6, none⟩) (n - p) (cap - p), .slice (some ⟨kv, ov, none⟩) 1 cap2]).run Try.prog (S.w.drewN q) = .ok (V1 q) (T1 q).w ∧ VR (T1 q) u1 (V1 q) ∧
   (T q).s = s2 ∧ (Builtin.copy_ #[27, 27] 3 #[.slice (some ⟨k, o + (p + 1) * 6, none⟩) (n - (p + 1)) (cap - (p + 1)), .slice (some ⟨k, o + (p + 1) * 6, none⟩) (n - (p + 1)) (cap - (p + 1))]).run Try.prog (T1 q).w.drew = .ok (V2 q) (T q).w ∧ VR (T q) u2 (V2 q) ∧ Go.Cl.Good base S (T q) :=
  ⟨fun q => (st2 q).choose, fun q => (st2 q).choose_spec.choose, fun q => (st2 q).choose_spec.choose_spec.choose, fun q => (st2 q).choose_spec.choose_spec.choose_spec.choose, fun q => (st2 q).choose_spec.choose_spec.choose_spec.choose_spec⟩
 refine (rep_mid k o n p cap kv ov cap2 (fun q => (T1 q).w) (fun q => (T q).w) V1 V2 S.w hpn hcap hn6 (fun q dc => ?_) (fun q dc sc => ?_) (fun q ty x cc => ?_)).mono ?_
 ·rw [anyCap _ _ _ _ (cap - p)]; exact (F q).2.1
 ·rw [anyCap _ _ _ _ (cap - (p + 1)), anyCap2 _ _ _ _ _ _ _ (cap - (p + 1))]; exact (F q).2.2.2.2.1
 ·cases x with
  | none => simp only [Builtin.clear_, run_underlying Try.underlying27, Sem.run_bind, Result.andThen_ok]; rfl
  | some x => simp [Builtin.clear_, run_underlying Try.underlying27]; rfl
 ·rintro e w' ⟨rfl, q, rfl⟩
  obtain ⟨-, -, -, f4, -, -, f7⟩ := F q
  exact ⟨_, rfl, T q, by rw [f4]; exact Same.refl _, rfl, hx0.mono f7.ext, f7⟩
theorem VRL.take {S : St} {l l' : List Value} (h : VRL S l l') (n : Nat) : VRL S (l.take n) (l'.take n) := by
 refine ⟨by rw [List.length_take, List.length_take, h.1], fun i hi => ?_⟩
 rw [List.length_take] at hi
 have := h.2 i (by omega)
 rw [List.getD_eq_getElem?_getD, List.getD_eq_getElem?_getD, List.getElem?_take_of_lt (by omega), List.getElem?_take_of_lt (by omega), ← List.getD_eq_getElem?_getD, ← List.getD_eq_getElem?_getD]
 exact this
theorem VRL.drop {S : St} {l l' : List Value} (h : VRL S l l') (n : Nat) : VRL S (l.drop n) (l'.drop n) := by
 refine ⟨by rw [List.length_drop, List.length_drop, h.1], fun i hi => ?_⟩
 rw [List.length_drop] at hi
 have := h.2 (n + i) (by omega)
 rw [List.getD_eq_getElem?_getD, List.getD_eq_getElem?_getD, List.getElem?_drop, List.getElem?_drop, ← List.getD_eq_getElem?_getD, ← List.getD_eq_getElem?_getD]
 exact this
theorem rpl_over (w : World) {kv ov k o cap2 lb cb : Nat} {arr arrv : Array Value} {E Ev : TypeId} {fr frv : Nat × Nat} (hne : kv ≠ k) (hk : w.heap[k]? = some (.cells arr E fr)) (hkv : w.heap[kv]? = some (.cells arrv Ev frv)) (h0 : arr.size ≠ 0) (hf : frv.1 = frv.2) :
  (callFunc 75 #[.slice (some ⟨kv, ov, none⟩) 1 cap2, .slice (some ⟨k, o, none⟩) lb cb]).run Try.prog w = .ok (.value (.bool false)) w := by
 have hfz : ∀ x, w.frozen? ⟨kv, x, none⟩ = false := fun x => by
  simp only [World.frozen?, hkv]
  simp; omega
 rw [run_callFunc_extern Try.func75 (by kernel_rfl) (by kernel_rfl) (by kernel_rfl) (e := Extern.SlicesOverlaps.overlaps #[27, 27] #[4]) (by kernel_rfl),
  run_overlaps_apart w 27 4 55 Try.underlying27 6 zRp ⟨kv, ov, none⟩ ⟨k, o, none⟩ 1 cap2 lb cb hne Ev E arrv.size arr.size (by simp [World.shape?, hkv]) (by simp [World.shape?, hk]) h0 (hfz _) (hfz _)]
 rfl
set_option maxHeartbeats 4000000 in
theorem rpl_new {base : Nat} {S : St} (hs : SR base S) {i off n c j off2 c2 p cap cap2 : Nat} {k o kv ov : Nat} {v : Value} {t' : ASt} (hpn : p < n) (hn6 : n ≤ 1000000) (hcap : n ≤ cap)
  (hk0 : (S.e.loc i c).1 = k) (ho0 : (S.e.loc i c).2 + off = o) (hkv0 : (S.e.loc j c2).1 = kv) (hov0 : (S.e.loc j c2).2 + off2 = ov) (hC : CapOk S i c ⟨k, o, none⟩ cap)
  (h : replM S.s 6 i off n c j off2 c2 p = some (v, t')) :
  Calls Try.prog 74 #[.slice (some ⟨k, o, none⟩) n cap, .int .i64 (p : Nat), .slice (some ⟨kv, ov, none⟩) 1 cap2] S.w fun e w' => ∃ R, e = .returned R ∧ RplPost base S v t' R w' := by
 unfold replM at h
 split at h
 case h_2 => cases h
 rename_i old new b bj g1 g2 g3 g4
 split at h
 case isFalse => cases h
 rename_i hc
 simp only [Bool.and_eq_true, Nat.ble_eq, Nat.beq_eq, Nat.blt_eq, Bool.not_eq_true'] at hc
 obtain ⟨⟨⟨⟨⟨⟨⟨⟨hown, hownj⟩, hlow⟩, hes⟩, hesj⟩, hij0⟩, hok1⟩, hok2⟩, -⟩ := hc
 have hij : i ≠ j := fun e => by subst e; rw [Nat.beq_refl] at hij0; cases hij0
 obtain ⟨old', hvo, hol, hco⟩ := hs.listed g1
 obtain ⟨new', hvn, hnl, hcn⟩ := hs.listed g2
 rw [hk0, ho0] at hco
 rw [hkv0, hov0] at hcn
 obtain ⟨b2, hb2, hlive, -⟩ := hs.cells g1
 rw [g3] at hb2; obtain rfl := Option.some.inj hb2
 obtain ⟨b3, hb3, hlivej, -⟩ := hs.cells g2
 rw [g4] at hb3; obtain rfl := Option.some.inj hb3
 obtain ⟨hbase, ⟨arr, E, fr, hk, hfr⟩, hex, -⟩ := hs.own i _ g3 hown c hlive
 obtain ⟨-, ⟨arrv, Ev, frv, hkv, hfrv⟩, -, -⟩ := hs.own j _ g4 hownj c2 hlivej
 rw [hk0] at hbase hk
 rw [hkv0] at hkv
 have hf0 : fr.1 = fr.2 := hfr.resolve_right (fun q => by have := q.2; omega)
 have hfv0 : frv.1 = frv.2 := hfrv.resolve_right (fun q => by have := q.2; omega)
 have hne : kv ≠ k := fun e => hij (hex j _ g4 c2 hlivej (by rw [hkv0, hk0, e])).symm
 obtain ⟨arr0, E0, fr0, hk1, hfit⟩ := hC _ g3 hlow
 simp only at hk1 hfit
 rw [hk] at hk1
 injection hk1 with hk1; injection hk1 with q1 q2 q3
 subst q1; subst q2; subst q3
 rw [hes] at hfit
 have hoks := hvo.okCell hok1
 have hokn := hvn.okCell hok2
 have hdl : (old'.drop (p * 6)).length = (n - p) * 6 := by rw [List.length_drop, hol]; omega
 have hover : ∀ lb cb, (callFunc 75 #[.slice (some ⟨kv, ov, none⟩) 1 cap2, .slice (some ⟨k, o + (p + 1) * 6, none⟩) lb cb]).run Try.prog S.w = .ok (.value (.bool false)) S.w := fun lb cb => rpl_over S.w hne hk hkv (by omega) hfv0
 have hkill := Go.Cl.Good.kill hs g3
 have hF : VRL S (old.take (p * 6) ++ (new ++ old.drop (p * 6))) (old'.take (p * 6) ++ (new' ++ old'.drop (p * 6))) := (VRL.take hvo _).append (hvn.append (VRL.drop hvo _))
 have hFl : (old.take (p * 6) ++ (new ++ old.drop (p * 6))).length = old'.length + 6 := by
  rw [hF.1]; simp only [List.length_append, List.length_take, List.length_drop]; omega
 have hAdd : ∀ (a q : Nat), (⟨k, a, none⟩ : Addr).add q = ⟨k, a + q, none⟩ := fun a q => Addr.add_lit ..
 have hAddv : ∀ (a q : Nat), (⟨kv, a, none⟩ : Addr).add q = ⟨kv, a + q, none⟩ := fun a q => Addr.add_lit ..
 have hsrcD : ∀ q u, (old'.drop (p * 6))[q]? = some u -> S.w.cell? ((⟨k, o + p * 6, none⟩ : Addr).add q) = some u := fun q u hq => by
  rw [List.getElem?_drop] at hq
  rw [hAdd, Nat.add_assoc]; exact hco _ _ hq
 have hsrcN : ∀ q u, new'[q]? = some u -> S.w.cell? ((⟨kv, ov, none⟩ : Addr).add q) = some u := fun q u hq => by rw [hAddv]; exact hcn _ _ hq
 have hokD : ∀ u ∈ old'.drop (p * 6), okCell u = true := fun u hu => hoks u (List.mem_of_mem_drop hu)
 have hnl6 : new'.length = 6 := by omega
 generalize hS1 : (⟨S.s.put i (.blk (Cl.kill b)), S.e, S.w⟩ : St) = S1 at hkill
 have e1s : S1.s = S.s.put i (.blk (Cl.kill b)) := by rw [← hS1]
 have e1e : S1.e = S.e := by rw [← hS1]
 have e1w : S1.w = S.w := by rw [← hS1]
 rw [← e1s] at h
 have hF1 := hF.mono hkill.ext
 have hFl' : (old'.take (p * 6) ++ (new' ++ old'.drop (p * 6))).length = old'.length + 6 := by rw [← hF.1]; exact hFl
 have harr : ∀ q, q < old'.length -> arr[o + q]? = old'[q]? := fun q hq => by
  have h1 := hco q _ (List.getElem?_eq_getElem hq)
  rw [cell_of_block _ _ _ _ _ _ hk] at h1
  rw [h1, List.getElem?_eq_getElem hq]
 have hdr : Below base S.w S.w.drew := ⟨rfl, rfl, rfl, Nat.le_refl _, fun _ _ => rfl⟩
 by_cases hroom : n + 1 ≤ cap
 ·have r1 : ∀ dc sc, (Builtin.copy_ #[27, 27] 3 #[.slice (some ⟨k, o + (p + 1) * 6, none⟩) (n - p) dc, .slice (some ⟨k, o + p * 6, none⟩) (n + 1 - p) sc]).run Try.prog S.w.drew = .ok (goInt (n - p : Nat)) (setCells S.w.drew k (o + (p + 1) * 6) (old'.drop (p * 6))) := fun dc sc => by
   have := run_copy_z (P := Try.prog) S.w.drew (sT := 27) (ty := 3) (k := k) (o := o + (p + 1) * 6) (dLen := n - p) (dCap := dc) (sLen := n + 1 - p) (sCap := sc) (a := ⟨k, o + p * 6, none⟩) (cs := old'.drop (p * 6)) Try.underlying27 szI (by rw [hdl, Nat.min_eq_right (by omega)]) hsrcD hk (.inl hf0) (by omega) hokD
   rw [Nat.min_eq_right (by omega : n - p ≤ n + 1 - p)] at this
   exact this
  obtain ⟨arr1, hW1, hs1, ha1⟩ := setCells_block (old'.drop (p * 6)) S.w.drew k (o + (p + 1) * 6) arr E fr hk (by omega)
  obtain ⟨W1, hW1e⟩ : ∃ W, W = setCells S.w.drew k (o + (p + 1) * 6) (old'.drop (p * 6)) := ⟨_, rfl⟩
  rw [← hW1e] at hW1
  have r2 : ∀ dc, (Builtin.copy_ #[27, 27] 3 #[.slice (some ⟨k, o + p * 6, none⟩) (n + 1 - p) dc, .slice (some ⟨kv, ov, none⟩) 1 cap2]).run Try.prog W1 = .ok (goInt 1) (setCells W1 k (o + p * 6) new') := fun dc => by
   have := run_copy_z (P := Try.prog) W1 (sT := 27) (ty := 3) (k := k) (o := o + p * 6) (dLen := n + 1 - p) (dCap := dc) (sLen := 1) (sCap := cap2) (a := ⟨kv, ov, none⟩) (cs := new') Try.underlying27 szI (by rw [Nat.min_eq_left (by omega)]; exact hnl)
    (fun q u hq => by rw [hW1e, hAddv, World.cell?_of_block (setCells_ne _ _ _ _ _ hne)]; exact hcn _ _ hq) hW1 (.inl hf0) (by omega) hokn
   rw [Nat.min_eq_left (by omega : 1 ≤ n + 1 - p)] at this
   exact this
  obtain ⟨arr2, hW2, hs2, ha2⟩ := setCells_block new' W1 k (o + p * 6) arr1 E fr hW1 (by omega)
  obtain ⟨W2, hW2e⟩ : ∃ W, W = setCells W1 k (o + p * 6) new' := ⟨_, rfl⟩
  rw [← hW2e] at hW2
  refine (ins_shift k o n cap p kv ov cap2 W1 W2 S.w hpn hroom hn6 hover (fun dc sc => by rw [hW1e]; exact r1 dc sc) (fun dc => by rw [hW2e]; exact r2 dc)).mono ?_
  rintro e W2 ⟨rfl, rfl⟩
  unfold newSlice at h
  split at h
  case isFalse => cases h
  rename_i hrm
  injection h with h; injection h with e1 e2; subst e1; subst e2
  have hneL : ∀ j' bj' c', S1.s.blk? j' = some bj' -> Live bj' c' -> (S1.e.loc j' c').1 ≠ k := by
   intro j' bj' c' hbj hc' heq
   rw [e1e] at heq
   rw [e1s] at hbj
   by_cases hji : j' = i
   ·subst hji
    rw [ASt.blk?_put_self _ _ _ (by have := hs.lt g3; have := hs.room; omega)] at hbj
    obtain rfl := Option.some.inj hbj
    have q1 := hc'.1; have q2 := hc'.2; simp only [Cl.kill] at q1 q2; omega
   ·simp only [ASt.blk?, ASt.get_put_ne _ _ _ _ (Ne.symm hji)] at hbj
    exact hji (hex j' bj' (by simpa [ASt.blk?] using hbj) c' hc' (by rw [heq, hk0]))
  have h3 := three_at (a0 := arr) (a2 := arr2) (o := o) (pz := p * 6) (z := 6) (old := old') (new := new') hnl6 (by omega) (fun q hq => harr q (by omega)) (fun q => by rw [ha2, ha1, show o + (p + 1) * 6 = o + (p * 6 + 6) by omega])
  have hbel : Below base S.w W2 := by
   rw [hW2e, hW1e]
   exact (hdr.trans (setCells_below _ S.w.drew _ _ _ hbase)).trans (setCells_below _ _ _ _ _ hbase)
  have hg := Go.Cl.Good.reuseW (S := S1) hkill.sr hrm 6 (k := k) (o := o) (arr := arr) (arr' := arr2) (E := E) (fr := fr) (W := W2) (by rw [e1w]; exact hk) (.inl hf0) hbase hneL hW2 (by omega)
   (fun j' hj' => by rw [hW2e, setCells_ne _ _ _ _ _ hj', hW1e, setCells_ne _ _ _ _ _ hj', e1w]; rfl) (by rw [e1w]; exact hbel) (cs := old.take (p * 6) ++ (new ++ old.drop (p * 6)))
   (fun q hq => ⟨(old'.take (p * 6) ++ (new' ++ old'.drop (p * 6))).getD q undef, by rw [h3 q (by omega), List.getD_eq_getElem?_getD, List.getElem?_eq_getElem (by omega)]; rfl, hF1.2 q hq⟩)
  refine ⟨_, rfl, _, Same.refl _, rfl, ?_, hkill.trans hg⟩
  have hself : ∀ (bb : Blk), (S1.s.new (.blk bb)).blk? S1.s.next = some bb := fun bb => by simp only [ASt.new, ASt.blk?, Tr.get_set_self _ _ _ _ (deep (show 0 < 16000001 by omega))]
  refine .slice _ _ _ _ _ _ hroom (fun q => by omega) (fun _ => ⟨⟨_, hself _, Nat.le_refl _, fun _ => by simp⟩, fun b4 hb4 _ => ?_⟩)
  rw [hself] at hb4
  obtain rfl := Option.some.inj hb4
  exact ⟨arr2, E, fr, hW2, by simp only; omega⟩
 ·obtain ⟨m, hm⟩ : ∃ m, m = n + 1 - p := ⟨_, rfl⟩
  have hpm : p + m = n + 1 := by omega
  have hsA : srcA S.s 6 96 (.agg noneI.toArray) (.int .i64) (.int .i64 ((m : Nat) : Int)) = some (m, repeatL (Value.agg noneI.toArray).cells.toList m) := by
   show (if Nat.ble (m * 96) 140737488355328 && Nat.ble m 140737488355328 && plainV (.agg noneI.toArray) && Nat.beq (Value.agg noneI.toArray).cells.toList.length 6 && Nat.blt 0 6 then _ else _) = _
   have c1 : Nat.ble (m * 96) 140737488355328 = true := by simp only [Nat.ble_eq]; omega
   have c2 : Nat.ble m 140737488355328 = true := by simp only [Nat.ble_eq]; omega
   rw [c1, c2, plI]; rfl
  obtain ⟨zs, hvz, hzl, hrz⟩ := srcA_ok (P := Try.prog) hs szI byI zI (xd := .int .i64) rfl (VR.int .i64 ((m : Nat) : Int)) hsA
  have hzl : zs.length = m * 6 := by rw [← hvz.1]; exact hzl
  have htl : (old'.take (p * 6)).length = p * 6 := by rw [List.length_take, hol]; omega
  have hold := run_firstCells_some (P := Try.prog) (w := S.w.drew) 6 p ⟨k, o, none⟩ p cap (old'.take (p * 6)) htl (fun q u hq => by
   rw [hAdd]
   rw [List.getElem?_take] at hq
   split at hq
   ·exact hco _ _ hq
   ·cases hq)
  have hap := run_append_re (P := Try.prog) (w := S.w) (ty := 27) (ts := #[27, 3]) (aS := #[.slice (some ⟨k, o, none⟩) p cap, .int .i64 ((m : Nat) : Int)]) (st := 27) (xt := 3) rfl rfl rfl rfl Try.underlying27 Try.underlying3 szI byI zI (hrz S.w S.w.drew rfl rfl) (by omega) (by omega) hold (by omega) (by omega)
  have hge := grownCap_ge S.w (p + m) cap 55
  have hrs := row_size (old := old'.take (p * 6)) (new := zs) (zv := .agg noneI.toArray) (z := 6) (len := p) (n := m) (cap := grownCap S.w (p + m) cap 55) htl hzl rfl hge
  have hr0 : ∀ q, q < p * 6 -> ((old'.take (p * 6)).toArray ++ zs.toArray ++ Builtin.zeroCells (Value.agg noneI.toArray).cells (grownCap S.w (p + m) cap 55 - (p + m)))[0 + q]? = old'[q]? := fun q hq => by
   rw [Nat.zero_add, Array.append_assoc, Array.getElem?_append_left (by simp; omega), List.getElem?_toArray, List.getElem?_take_of_lt hq]
  generalize (old'.take (p * 6)).toArray ++ zs.toArray ++ Builtin.zeroCells (Value.agg noneI.toArray).cells (grownCap S.w (p + m) cap 55 - (p + m)) = row0 at hap hrs hr0
  generalize grownCap S.w (p + m) cap 55 = G at hap hge hrs
  rw [hpm] at hap hge
  obtain ⟨ks, hks⟩ : ∃ ks, ks = S.w.heap.size := ⟨_, rfl⟩
  rw [← hks] at hap
  obtain ⟨W1, hW1e⟩ : ∃ W, W = S.w.drew.alloc (.cells row0 55) := ⟨_, rfl⟩
  rw [← hW1e] at hap
  have hW1 : W1.heap[ks]? = some (.cells row0 55 (0, 0)) := by rw [hW1e, hks]; exact heap_alloc_new S.w.drew _
  have hold1 : ∀ j', j' < ks -> W1.heap[j']? = S.w.heap[j']? := fun j' hj' => by
   rw [hW1e]
   show (S.w.heap.push _)[j']? = _
   rw [Array.getElem?_push, if_neg (by omega)]
  have hklt : k < ks := by rw [hks]; exact lt_of_cells hk
  have hkvlt : kv < ks := by rw [hks]; exact lt_of_cells hkv
  have r1 : ∀ dc, (Builtin.copy_ #[27, 27] 3 #[.slice (some ⟨ks, p * 6, none⟩) (n + 1 - p) dc, .slice (some ⟨kv, ov, none⟩) 1 cap2]).run Try.prog W1 = .ok (goInt 1) (setCells W1 ks (p * 6) new') := fun dc => by
   have := run_copy_z (P := Try.prog) W1 (sT := 27) (ty := 3) (k := ks) (o := p * 6) (dLen := n + 1 - p) (dCap := dc) (sLen := 1) (sCap := cap2) (a := ⟨kv, ov, none⟩) (cs := new') Try.underlying27 szI (by rw [Nat.min_eq_left (by omega)]; exact hnl)
    (fun q u hq => by rw [hAddv, World.cell?_of_block (hold1 _ hkvlt)]; exact hcn _ _ hq) hW1 (.inl rfl) (by omega) hokn
   rw [Nat.min_eq_left (by omega : 1 ≤ n + 1 - p)] at this
   exact this
  obtain ⟨arr1, hW2, hs1, ha1⟩ := setCells_block new' W1 ks (p * 6) row0 _ _ hW1 (by omega)
  obtain ⟨W2, hW2e⟩ : ∃ W, W = setCells W1 ks (p * 6) new' := ⟨_, rfl⟩
  rw [← hW2e] at hW2
  have hW2d : W2.drew.heap[ks]? = some (.cells arr1 55 (0, 0)) := hW2
  have r2 : ∀ dc sc, (Builtin.copy_ #[27, 27] 3 #[.slice (some ⟨ks, (p + 1) * 6, none⟩) (n - p) dc, .slice (some ⟨k, o + p * 6, none⟩) (n - p) sc]).run Try.prog W2.drew = .ok (goInt (n - p : Nat)) (setCells W2.drew ks ((p + 1) * 6) (old'.drop (p * 6))) := fun dc sc => by
   have := run_copy_z (P := Try.prog) W2.drew (sT := 27) (ty := 3) (k := ks) (o := (p + 1) * 6) (dLen := n - p) (dCap := dc) (sLen := n - p) (sCap := sc) (a := ⟨k, o + p * 6, none⟩) (cs := old'.drop (p * 6)) Try.underlying27 szI (by rw [hdl, Nat.min_self])
    (fun q u hq => by
     rw [← hsrcD q u hq, hAdd]
     refine World.cell?_of_block ?_
     show W2.heap[k]? = _
     rw [hW2e, setCells_ne _ _ _ _ _ (by omega)]; exact hold1 _ hklt) hW2d (.inl rfl) (by omega) hokD
   rw [Nat.min_self] at this
   exact this
  obtain ⟨arr2, hW3, hs2, ha2⟩ := setCells_block (old'.drop (p * 6)) W2.drew ks ((p + 1) * 6) arr1 _ _ hW2d (by omega)
  obtain ⟨W3, hW3e⟩ : ∃ W, W = setCells W2.drew ks ((p + 1) * 6) (old'.drop (p * 6)) := ⟨_, rfl⟩
  rw [← hW3e] at hW3
  have hmi : ((m : Nat) : Int) = (n : Int) + 1 - (p : Int) := by omega
  rw [hmi] at hap
  refine (ins_grow k o n cap p kv ov cap2 ks G W1 W2 W3 S.w hpn hcap (by omega) hge hn6 hap (fun dc => by rw [hW2e]; exact r1 dc) (fun dc sc => by rw [hW3e]; exact r2 dc sc)).mono ?_
  rintro e W4 ⟨rfl, rfl⟩
  have h3 := three_at (a0 := row0) (a2 := arr2) (o := 0) (pz := p * 6) (z := 6) (old := old') (new := new') hnl6 (by omega) hr0 (fun q => by
   rw [ha2, ha1, show (p + 1) * 6 = p * 6 + 6 by omega]
   simp only [Nat.zero_add]
   by_cases c1 : p * 6 ≤ q ∧ q < p * 6 + new'.length
   ·rw [if_neg (by omega), if_pos c1, if_pos c1]
   ·rw [if_neg c1, if_neg c1])
  have hB3 : Below ks W1 W4 := by
   rw [hW3e]
   exact (show Below ks W1 W2.drew from ⟨by rw [hW2e]; exact (setCells_below _ W1 _ _ _ (Nat.le_refl ks)).os, by rw [hW2e]; exact (setCells_below _ W1 _ _ _ (Nat.le_refl ks)).tape, by rw [hW2e]; exact (setCells_below _ W1 _ _ _ (Nat.le_refl ks)).output, by rw [hW2e]; exact (setCells_below _ W1 _ _ _ (Nat.le_refl ks)).size, by rw [hW2e]; exact (setCells_below _ W1 _ _ _ (Nat.le_refl ks)).block⟩).trans (setCells_below _ _ _ _ _ (Nat.le_refl ks))
  have hsz4 : W4.heap.size = ks + 1 := by
   rw [hW3e, setCells_size]
   show W2.heap.size = _
   rw [hW2e, setCells_size, hW1e, hks]
   show (S.w.heap.push _).size = _
   rw [Array.size_push]
  have hP : Pushed S.w W4 (.cells arr2 55 (0, 0)) := by
   refine ⟨Array.ext_getElem? fun q => ?_, by rw [hB3.os, hW1e]; rfl, by rw [hB3.tape, hW1e]; rfl, by rw [hB3.output, hW1e]; rfl⟩
   rw [Array.getElem?_push, ← hks]
   by_cases c1 : q = ks
   ·rw [if_pos c1, c1]; exact hW3
   ·rw [if_neg c1]
    by_cases c2 : q < ks
    ·rw [hB3.block q c2]; exact hold1 q c2
    ·rw [Array.getElem?_eq_none (by omega), Array.getElem?_eq_none (by omega)]
  obtain ⟨T, k1, k2, k3, k4⟩ := newSlice_ok hkill.sr h arr2 55 (0, 0) W4 G (by rw [e1w]; exact hP) (.inl rfl) (by omega) (fun q hq => by
   have h4 := h3 q (by omega)
   have h5 := hF1.2 q hq
   rw [Nat.zero_add] at h4
   rw [List.getD_eq_getElem?_getD (l := arr2.toList), Array.getElem?_toList, h4, ← List.getD_eq_getElem?_getD]
   exact h5) hge (by omega)
  rw [e1w, ← hks] at k3
  exact ⟨_, rfl, T, by rw [k1]; exact Same.refl _, k2, k3, hkill.trans k4⟩
end Go.Proofs.Ythlbahnfimigcaa
set_option linter.unusedSimpArgs false
set_option linter.unusedVariables false
set_option maxRecDepth 100000
namespace Go.Cl
theorem VRL.arr4 {S : St} {a b c d : Value} {args : Array Value} (h : VRL S [a, b, c, d] args.toList) : ∃ a' b' c' d', args = #[a', b', c', d'] ∧ VR S a a' ∧ VR S b b' ∧ VR S c c' ∧ VR S d d' := by
 obtain ⟨a', r, e, h1, h2⟩ := h.cons_inv
 obtain ⟨b', r2, e2, h3, h4⟩ := h2.cons_inv
 obtain ⟨c', r3, e3, h5, h6⟩ := h4.cons_inv
 obtain ⟨d', r4, e4, h7, h8⟩ := h6.cons_inv
 rw [h8.nil_inv] at e4
 rw [e4] at e3; rw [e3] at e2; rw [e2] at e
 exact ⟨a', b', c', d', by rw [← Array.toList_inj, e], h1, h3, h5, h7⟩
theorem VR.int_inv {S : St} {k : IntKind} {n : Int} {v : Value} (h : VR S (.int k n) v) : v = .int k n := by cases h; rfl
theorem appendA_one {P : Program} {s : ASt} {st xt e2 : TypeId} {i off p c j o2 c2 : Nat} {v : Value} {t' : ASt} (hxt : P.underlying xt = some (.slice e2)) (h : appendA P s st xt (.slice (some ⟨i, off, none⟩) p c) (.slice (some ⟨j, o2, none⟩) 1 c2) = some (v, t')) :
  ∃ i' o' c', v = .slice (some ⟨i', o', none⟩) (p + 1) c' := by
 unfold appendA at h
 rw [hxt] at h
 split at h
 case h_2 => cases h
 rename_i e xd hu hxu
 injection hxu with hxu; subst hxu
 simp only at h
 split at h
 case h_2 => cases h
 rename_i z by8 zv hz hby hzv
 split at h
 case h_2 => cases h
 rename_i n new hsrc
 have hn : n = 1 := by
  unfold srcA srcCells at hsrc
  simp only at hsrc
  split at hsrc
  ·injection hsrc with hsrc; injection hsrc with e1 _; exact e1.symm
  ·cases hsrc
 subst hn
 split at h
 case isFalse => cases h
 have hnew : ∀ {s0 : ASt} {cs : List Value} {m w : Nat} {v : Value} {t : ASt}, newSlice s0 cs m w = some (v, t) -> ∃ i' c', v = .slice (some ⟨i', 0, none⟩) m c' := fun {s0 cs m w v t} hq => by
  unfold newSlice at hq
  split at hq
  ·injection hq with hq; injection hq with e1 _; exact ⟨_, _, e1.symm⟩
  ·cases hq
 simp only at h
 cases c with
 | zero =>
  simp only at h
  split at h
  ·rename_i hp
   have hp : p = 0 := by simpa [Nat.beq_eq] using hp
   obtain ⟨i', c', e1⟩ := hnew h
   subst hp
   exact ⟨i', 0, c', e1⟩
  ·cases h
 | succ c0 =>
  simp only at h
  split at h
  case h_2 => cases h
  split at h
  case isFalse => cases h
  split at h
  ·injection h with h; injection h with e1 _; exact ⟨_, _, _, e1.symm⟩
  ·split at h
   ·obtain ⟨i', c', e1⟩ := hnew h
    exact ⟨i', 0, c', e1⟩
   ·cases h
end Go.Cl
namespace Go.Proofs.Ythlbahnfimigcaa
open Go.Cl Go.Lib Go.RowKit Go.Shelf
set_option maxHeartbeats 4000000 in
theorem pRepl_ok : PrimOk Try.prog (fun _ _ => True) 57 (pRepl Try.prog 27 6) := by
 intro base S s args v s' hss hs _ hp args' hva
 obtain ⟨t', k1, k2, _⟩ := pRepl_fr _ _ _ s S.s _ args v s' hss (hss.wf hs.wf) hp
 refine .inl ⟨enters_of Try.func57 (by kernel_rfl) rfl _, ?_⟩
 suffices key : Calls Try.prog 57 args' S.w fun e w' => ∃ R, e = .returned R ∧ RplPost base S v t' R w' from key.mono fun e w' ⟨R, he, T, h1, h2, h3, h4⟩ => ⟨T, R, Same.trans k2 h1, h2, he, h3, h4⟩
 unfold pRepl at k1
 split at k1
 case h_2 => cases k1
 rename_i a n c p q j off2 c2
 obtain ⟨x', y1, y2, w', rfl, hx, hy1, hy2, hw⟩ := hva.arr4
 obtain rfl := hy1.int_inv
 obtain rfl := hy2.int_inv
 split at k1
 ·rename_i g1
  obtain ⟨cap2, rfl, _⟩ := VR.there hs hw (by omega) g1
  split at k1
  case isFalse => cases k1
  rename_i hc
  simp only [Bool.and_eq_true, Nat.beq_eq] at hc
  obtain ⟨⟨rfl, rfl⟩, rfl⟩ := hc
  have hx0 := hx
  cases hx with
  | sliceNil =>
  obtain ⟨T, v', r, post⟩ := rpl_end hs hx0 hw k1
  exact rep_insN _ _ _ S.w ((ins_endN _ _ _ v' T.w S.w r).mono fun e w' ⟨he, hw⟩ => ⟨v', he, by rw [hw]; exact post⟩)
 ·rename_i i off g1
  obtain ⟨cap2, rfl, _⟩ := VR.there hs hw (by omega) g1
  split at k1
  case h_2 => cases k1
  rename_i g2
  split at k1
  case isFalse => cases k1
  rename_i hc
  simp only [Bool.and_eq_true, Nat.ble_eq, Nat.blt_eq] at hc
  obtain ⟨⟨hn6, hn0⟩, hes⟩ := hc
  obtain ⟨cap, rfl, hcap, hz0, hR, hC⟩ := VR.there hs hx hn0 g2
  have hsub : ∀ l, l < n -> VR S (.slice (some ⟨i, off + l * 6, none⟩) (n - l) c) (.slice (some ⟨(S.e.loc i c).1, (S.e.loc i c).2 + off + l * 6, none⟩) (n - l) (cap - l)) := fun l hl => by
   have := hx.sub (l := l) (h := n) (m := cap) (z := 6) (by omega) hcap (Nat.le_refl _) hes c (.inl rfl)
   rw [if_neg (by omega), Addr.add_lit] at this
   exact this
  split at k1
  ·rename_i hq
   have hq : q = n := by simpa [Nat.beq_eq] using hq
   subst hq
   split at k1
   case isFalse => cases k1
   rename_i hc
   simp only [Bool.or_eq_true, Nat.beq_eq] at hc
   rcases hc with rfl | rfl
   ·obtain ⟨T, v', r, post⟩ := rpl_end hs hx hw k1
    exact rep_ins _ _ p cap p _ _ cap2 S.w (Nat.le_refl _) hcap hn6 ((ins_end _ _ p cap _ _ cap2 v' T.w S.w r).mono fun e w' ⟨he, hw⟩ => ⟨v', he, by rw [hw]; exact post⟩)
   ·have hxp : VR S (.slice (some ⟨i, off, none⟩) p c) (.slice (some ⟨(S.e.loc i c).1, (S.e.loc i c).2 + off, none⟩) p cap) := .slice _ _ _ _ _ _ (by omega) hz0 (fun _ => ⟨hR, hC⟩)
    obtain ⟨T, v', r, post⟩ := rpl_end hs hxp hw k1
    obtain ⟨i', o', c', rfl⟩ := appendA_one Try.underlying27 k1
    obtain ⟨T2, -, -, hvr, -⟩ := id post
    cases hvr with
    | slice _ _ _ _ a2 cap3 h0 _ hr =>
    exact (rep_end _ _ p cap _ _ cap2 cap3 a2 T.w S.w hcap r).mono fun e w' ⟨he, hw⟩ => ⟨_, he, by rw [hw]; exact post⟩
  ·rename_i hq
   split at k1
   ·rename_i hc
    simp only [Bool.and_eq_true, Nat.beq_eq, Nat.blt_eq] at hc
    obtain ⟨rfl, hlt⟩ := hc
    exact rpl_mid hs hlt hn6 hcap hsub hx hw k1
   ·split at k1
    case isFalse => cases k1
    rename_i hc
    simp only [Bool.and_eq_true, Nat.beq_eq, Nat.blt_eq] at hc
    obtain ⟨rfl, hlt⟩ := hc
    exact rep_ins _ _ n cap q _ _ cap2 S.w (by omega) hcap hn6 (rpl_new hs hlt hn6 hcap rfl rfl rfl rfl hC k1)
 ·cases k1
end Go.Proofs.Ythlbahnfimigcaa
set_option linter.unusedSimpArgs false
set_option linter.unusedVariables false
set_option maxRecDepth 100000
namespace Go.Proofs.Ythlbahnfimigcaa
open Go.Cl
noncomputable abbrev libP : Prims := (57, pRepl Try.prog 27 6) :: libN
theorem libFrP : LibFr libP := LibFr.cons (pRepl_fr _ _ _) libFr
theorem libOkP : LibOk Try.prog (fun _ _ => True) libP := LibOk.cons pRepl_ok (libOk _)
end Go.Proofs.Ythlbahnfimigcaa
set_option linter.unusedSimpArgs false
set_option linter.unusedVariables false
set_option maxRecDepth 100000
namespace Go.Cl
variable {P : Program} {t e : TypeId}
theorem Own.cells {s : ASt} {z i low : Nat} {l : List Value} (hb : s.blk? i = some ⟨l, low, true, z⟩) (hl : low ≤ l.length + 1) {off m : Nat} (h : off + m ≤ l.length) : s.cellsAt i off (l.length + 1) m = some ((l.drop off).take m) := by
 have hc : (Nat.ble low (l.length + 1) && Nat.ble (l.length + 1) (l.length + 1) && Nat.blt (off + m) (l.length + 1)) = true := by
  simp only [Bool.and_eq_true, Nat.ble_eq, Nat.blt_eq]; omega
 unfold ASt.cellsAt
 simp only [hb, hc, if_true]
 rw [takeN_eq, dropN_eq]
 exact if_pos (by simp; omega)
theorem Own.cells0 {s : ASt} {z i low m : Nat} {l : List Value} (hb : s.blk? i = some ⟨l, low, true, z⟩) (hl : low ≤ l.length + 1) (h : l.length = m) : s.cellsAt i 0 (l.length + 1) m = some l := by
 have h2 := Own.cells hb hl (off := 0) (m := m) (by omega)
 rw [List.drop_zero, List.take_of_length_le (by omega)] at h2
 exact h2
theorem kill_new {s : ASt} {i z m : Nat} {x : Value} (b' : Blk) {cs : List Value} (h : cs.length = m * z) (hxi : idOf x = some i) :
  newSlice (s.put i (.blk b')) cs m z = some (.slice (some ⟨s.next, 0, none⟩) m (cs.length + 1), (s.put i (.blk b')).new (.blk ⟨cs, 1, true, z⟩)) ∧
  Own ((s.put i (.blk b')).new (.blk ⟨cs, 1, true, z⟩)) z (.slice (some ⟨s.next, 0, none⟩) m (cs.length + 1)) m cs ∧ Turns x s ((s.put i (.blk b')).new (.blk ⟨cs, 1, true, z⟩)) := by
 obtain ⟨h1, h2⟩ := Own.new (s := s.put i (.blk b')) h
 refine ⟨h1, h2, ⟨by rw [next_new]; simp [ASt.put], fun j hj hne => ?_⟩⟩
 have hj' : j < (s.put i (.blk b')).next := hj
 rw [(Stay.new (s.put i (.blk b')) _).get j hj', ASt.get_put_ne]
 intro e; subst e; exact hne hxi
theorem src_own {s : ASt} {z n j low : Nat} {l : List Value} (hb : s.blk? j = some ⟨l, low, true, z⟩) (hl : low ≤ l.length + 1) (hn : 0 < n) (hlen : l.length = n * z) : srcCells s z (.slice (some ⟨j, 0, none⟩) n (l.length + 1)) = some (n, l) := by
 have h := Own.cells0 hb hl hlen
 match n, hn with
 | m + 1, _ =>
  unfold srcCells
  simp only [h]
theorem store_own {s : ASt} {z i low off : Nat} {l vs : List Value} (hb : s.blk? i = some ⟨l, low, true, z⟩) (hl : low ≤ l.length + 1) (hv : vs ≠ []) (hok : vs.all okCell = true) (hfit : off + vs.length ≤ l.length) :
  s.storeAt i off (l.length + 1) vs = some (s.put i (.blk ⟨over l off vs, l.length + 1, true, z⟩)) := by
 unfold ASt.storeAt
 have hc : (true && Nat.ble low (l.length + 1) && Nat.beq (l.length + 1) (l.length + 1) && vs.all okCell) = true := by simp [hl, hok]
 simp only [hb, hc, if_true]
 match vs, hv with
 | v :: r, _ =>
  simp only [setAt_eq l off (v :: r) hfit]
  rfl
theorem over_same {l : List Value} {off : Nat} (h : off ≤ l.length) : over l off (l.drop off) = l := by
 unfold over
 rw [List.take_append_drop, List.length_drop, show off + (l.length - off) = l.length by omega, List.drop_length, List.append_nil]
set_option maxHeartbeats 2000000 in
theorem Own.repl {z by8 : Nat} {zv : Value} (hu : P.underlying t = some (.slice e)) (hsz : sizeB P e = some z) (hby : bytesB P e = some by8) (hzv : zeroB P e = some zv) (hzl : Nat.beq zv.cells.toList.length z = true) (hz0 : 0 < z) {s : ASt} {x y : Value} {n : Nat} {l es : List Value}
  (hx : Own s z x n l) (hy : Own s z y 1 es) (h0 : 0 < n ∨ x = .slice none 0 0) (hne : ∀ i, idOf x = some i -> idOf y ≠ some i) {k q : Nat} (hk : k ≤ n) (hq : q = k ∨ q = k + 1) (hqn : q ≤ n) (hn6 : n ≤ 1000000) (hb8 : by8 ≤ 1000000) (hok1 : l.all okCell = true) (hok2 : es.all okCell = true) :
  ∃ x' s', pRepl P t z [x, .int .i64 (.ofNat k), .int .i64 (.ofNat q), y] s = some (x', s') ∧ Own s' z x' (n + 1 - (q - k)) (l.take (k * z) ++ (es ++ l.drop (q * z))) ∧ Turns x s s' ∧ (idOf x' = idOf x ∨ ∃ i, idOf x' = some i ∧ s.next ≤ i) := by
 have hmul : ∀ m, m ≤ 1000001 -> m * by8 ≤ 140737488355328 := fun m hm => Nat.le_trans (Nat.mul_le_mul hm hb8) (by decide)
 have hy0 := hy
 cases hy with
 | of j _ lowj _ hj hbj hlj hlenj =>
 have hcj : s.cellsAt j 0 (es.length + 1) (1 * z) = some es := Own.cells0 hbj hlj hlenj
 have hsj := src_own hbj hlj (by omega) hlenj
 have hes0 : es ≠ [] := fun e => by rw [e] at hlenj; simp at hlenj; omega
 have hx0 := hx
 cases hx with
 | nil =>
  obtain rfl : k = 0 := by omega
  obtain rfl : q = 0 := by omega
  obtain ⟨x', s', h1, h2, h3, h4⟩ := Own.append (st := t) (xt := t) (n := 0) (m := 1) hu hu (.inl ⟨_, rfl⟩) hsz hby hzv hzl hx0 hsj hlenj hz0 hok2 (hmul (0 + 1) (by omega)) (by omega)
  refine ⟨x', s', ?_, by simpa using h2, h3, h4⟩
  unfold pRepl
  simp only [hcj]
  exact h1
 | of i _ low _ hi hb hl hlen =>
  have hn0 : 0 < n := h0.resolve_right (fun e => by cases e)
  have hij : i ≠ j := fun e => hne i rfl (by rw [e]; rfl)
  have hci : s.cellsAt i 0 (l.length + 1) (n * z) = some l := Own.cells0 hb hl hlen
  have hes : eszIs s i (l.length + 1) z = true := by unfold eszIs; simp [hb]
  have g1 : (Nat.ble n 1000000 && Nat.blt 0 n && eszIs s i (l.length + 1) z) = true := by
   rw [hes]; simp only [Bool.and_true, Bool.and_eq_true, Nat.ble_eq, Nat.blt_eq]; omega
  have hkz : k * z ≤ l.length := by rw [hlen]; exact Nat.mul_le_mul_right z hk
  by_cases c1 : q = n
  ·have g2 : Nat.beq q n = true := by simp [c1]
   rcases hq with rfl | rfl
   ·obtain ⟨x', s', h1, h2, h3, h4⟩ := Own.append (st := t) (xt := t) (n := n) (m := 1) hu hu (.inl ⟨_, rfl⟩) hsz hby hzv hzl hx0 hsj hlenj hz0 hok2 (hmul (n + 1) (by omega)) (by omega)
    refine ⟨x', s', ?_, ?_, h3, h4⟩
    ·unfold pRepl
     have g3 : (Nat.beq q q || Nat.beq (q + 1) q) = true := by simp
     simp only [hcj, hci, g1, g2, if_true]
     subst c1
     simp only [g3, if_true]
     exact h1
    ·subst c1
     rw [List.take_of_length_le (by omega), List.drop_of_length_le (by omega), List.append_nil, Nat.sub_self, Nat.sub_zero]
     exact h2
   ·have hkl : k * z + z = l.length := by rw [hlen, ← c1, Nat.succ_mul]
    have hcs : (l.take (k * z) ++ es).length = (k + 1) * z := by rw [List.length_append, List.length_take, Nat.succ_mul]; omega
    obtain ⟨h1, h2, h3⟩ := kill_new (s := s) (i := i) (z := z) (m := k + 1) (x := .slice (some ⟨i, 0, none⟩) n (l.length + 1)) (kill ⟨l, low, true, z⟩) hcs rfl
    refine ⟨.slice (some ⟨s.next, 0, none⟩) (k + 1) ((l.take (k * z) ++ es).length + 1), (s.put i (.blk (kill ⟨l, low, true, z⟩))).new (.blk ⟨l.take (k * z) ++ es, 1, true, z⟩), ?_, ?_, h3, .inr ⟨s.next, rfl, Nat.le_refl _⟩⟩
    rotate_left
    ·rw [List.drop_of_length_le (by rw [Nat.succ_mul]; omega), List.append_nil, show n + 1 - (k + 1 - k) = k + 1 by omega]
     exact h2
    ·unfold pRepl
     have g3 : (Nat.beq k (k + 1) || Nat.beq (k + 1) (k + 1)) = true := by simp
     simp only [hcj, hci, g1, g2, g3, if_true]
     have hcond : (Nat.ble ((k + 1) * by8) 140737488355328 && Nat.ble (k + 1) 140737488355328 && Nat.blt 0 z && es.all okCell && Nat.beq zv.cells.toList.length z) = true := by
      simp only [Bool.and_eq_true, Nat.ble_eq, Nat.blt_eq]; exact ⟨⟨⟨⟨hmul _ (by omega), by omega⟩, hz0⟩, hok2⟩, hzl⟩
     have hsA : srcA s z by8 zv (.slice e) (.slice (some ⟨j, 0, none⟩) 1 (es.length + 1)) = some (1, es) := hsj
     have hc1 : (true && Nat.ble low (l.length + 1) && Nat.beq z z) = true := by simp [hl]
     have hc2 : (Nat.beq (l.length + 1) (l.length + 1) && Nat.beq 0 0 && Nat.beq (k * z) l.length) = false := by
      have : Nat.beq (k * z) l.length = false := by
       cases hq : Nat.beq (k * z) l.length with
       | false => rfl
       | true => rw [Nat.beq_eq] at hq; omega
      rw [this]; simp
     have hc3 := Own.cells hb hl (off := 0) (m := k * z) (by omega)
     rw [List.drop_zero] at hc3
     unfold appendA
     simp only [hu, hsz, hby, hzv, hsA, hcond, if_true, hb, hc1, hc2, hc3]
     exact h1
  ·have g2 : Nat.beq q n = false := by
    cases hq : Nat.beq q n with
    | false => rfl
    | true => rw [Nat.beq_eq] at hq; exact absurd hq c1
   have hqlt : Nat.blt q n = true := by simp only [Nat.blt_eq]; omega
   rcases hq with rfl | rfl
   ·have hcs : (l.take (q * z) ++ (es ++ l.drop (q * z))).length = (n + 1) * z := by rw [List.length_append, List.length_append, List.length_take, List.length_drop, Nat.succ_mul]; omega
    obtain ⟨h1, h2, h3⟩ := kill_new (s := s) (i := i) (z := z) (m := n + 1) (x := .slice (some ⟨i, 0, none⟩) n (l.length + 1)) (kill ⟨l, low, true, z⟩) hcs rfl
    refine ⟨.slice (some ⟨s.next, 0, none⟩) (n + 1) ((l.take (q * z) ++ (es ++ l.drop (q * z))).length + 1), (s.put i (.blk (kill ⟨l, low, true, z⟩))).new (.blk ⟨l.take (q * z) ++ (es ++ l.drop (q * z)), 1, true, z⟩), ?_, ?_, h3, .inr ⟨s.next, rfl, Nat.le_refl _⟩⟩
    rotate_left
    ·rw [Nat.sub_self, Nat.sub_zero]; exact h2
    ·unfold pRepl
     have g3 : (Nat.beq q (q + 1) && Nat.blt q n) = false := by
      have : Nat.beq q (q + 1) = false := by
       cases hq : Nat.beq q (q + 1) with
       | false => rfl
       | true => rw [Nat.beq_eq] at hq; omega
      rw [this]; rfl
     have g4 : (Nat.beq q q && Nat.blt q n) = true := by rw [hqlt]; simp
     simp only [hcj, hci, g1, g2, g3, g4, if_true]
     unfold replM
     have hij' : Nat.beq i j = false := by
      cases hq : Nat.beq i j with
      | false => rfl
      | true => rw [Nat.beq_eq] at hq; exact absurd hq hij
     have hcond : (true && true && Nat.ble low (l.length + 1) && Nat.beq z z && Nat.beq z z && !(Nat.beq i j) && l.all okCell && es.all okCell && Nat.blt 0 z) = true := by
      rw [hij', hok1, hok2]; simp only [Bool.and_eq_true, Nat.ble_eq, Nat.blt_eq]; simp [hl, hz0]
     simp only [hcj, hci, hb, hbj, hcond, if_true]
     exact h1
   ·have hlen' : es.length = z := by omega
    have hqz : (k + 1) * z ≤ l.length := by rw [hlen]; exact Nat.mul_le_mul_right z hqn
    have hqz2 : (k + 1) * z = k * z + z := Nat.succ_mul k z
    have hst1 := store_own hb hl hes0 hok2 (off := 0 + k * z) (by omega)
    rw [Nat.zero_add] at hst1
    obtain ⟨l', hl'⟩ : ∃ l', l' = over l (k * z) es := ⟨_, rfl⟩
    rw [← hl'] at hst1
    have hll : l'.length = l.length := by rw [hl']; exact over_length (by omega)
    obtain ⟨s1, hs1⟩ : ∃ s1, s1 = s.put i (.blk ⟨l', l.length + 1, true, z⟩) := ⟨_, rfl⟩
    rw [← hs1] at hst1
    have hb1 : s1.blk? i = some ⟨l', l'.length + 1, true, z⟩ := by rw [hs1, ASt.blk?_put_self _ _ _ (by omega), hll]
    have hd : l'.drop ((k + 1) * z) ≠ [] := fun e => by
     have := congrArg List.length e
     rw [List.length_drop, hll, hlen] at this
     have : (k + 1) * z < n * z := Nat.mul_lt_mul_of_pos_right (by omega) hz0
     simp at *; omega
    have hokl' : l'.all okCell = true := by
     rw [hl']; unfold over
     rw [List.all_append, List.all_append, hok2]
     rw [List.all_eq_true] at hok1
     have a1 : (l.take (k * z)).all okCell = true := List.all_eq_true.2 fun v hv => hok1 v (List.mem_of_mem_take hv)
     have a2 : (l.drop (k * z + es.length)).all okCell = true := List.all_eq_true.2 fun v hv => hok1 v (List.mem_of_mem_drop hv)
     rw [a1, a2]; rfl
    have hokd : (l'.drop ((k + 1) * z)).all okCell = true := List.all_eq_true.2 fun v hv => (List.all_eq_true.1 hokl') v (List.mem_of_mem_drop hv)
    have hst2 := store_own hb1 (Nat.le_refl _) hd hokd (off := (k + 1) * z) (by rw [List.length_drop]; omega)
    rw [over_same (by omega)] at hst2
    have hrem : l'.length - (k + 1) * z = (n - (k + 1)) * z := by rw [hll, hlen, Nat.sub_mul]
    have hc2 := Own.cells hb1 (Nat.le_refl _) (off := (k + 1) * z) (m := (n - (k + 1)) * z) (by omega)
    rw [List.take_of_length_le (by rw [List.length_drop]; omega), hll] at hc2
    rw [hll] at hst2
    refine ⟨.slice (some ⟨i, 0, none⟩) n (l.length + 1), s1.put i (.blk ⟨l', l.length + 1, true, z⟩), ?_, ?_, ⟨by rw [hs1]; exact Nat.le_refl _, fun q' _ hq' => ?_⟩, .inl rfl⟩
    ·unfold pRepl
     have g3 : (Nat.beq (k + 1) (k + 1) && Nat.blt (k + 1) n) = true := by rw [hqlt]; simp
     simp only [hcj, hci, g1, g2, g3, if_true]
     unfold replI
     have e1 : copyA P s t (.slice (some ⟨i, 0 + k * z, none⟩) (n - k) (l.length + 1)) (.slice (some ⟨j, 0, none⟩) 1 (es.length + 1)) = some (.int .i64 1, s1) := by
      unfold copyA
      simp only [hu, hsz, cutSrc, Nat.min_eq_left (by omega : 1 ≤ n - k), hsj, Nat.zero_add, hst1]
      simp
     have e2 : copyA P s1 t (.slice (some ⟨i, 0 + (k + 1) * z, none⟩) (n - (k + 1)) (l.length + 1)) (.slice (some ⟨i, 0 + (k + 1) * z, none⟩) (n - (k + 1)) (l.length + 1)) = some (.int .i64 ((n - (k + 1) : Nat) : Int), s1.put i (.blk ⟨l', l.length + 1, true, z⟩)) := by
      obtain ⟨m, hm⟩ : ∃ m, n - (k + 1) = m + 1 := ⟨n - (k + 1) - 1, by omega⟩
      rw [hm] at hc2 ⊢
      have hsc : srcCells s1 z (.slice (some ⟨i, (k + 1) * z, none⟩) (m + 1) (l.length + 1)) = some (m + 1, l'.drop ((k + 1) * z)) := by
       unfold srcCells; simp only [hc2]
      unfold copyA
      simp only [hu, hsz, cutSrc, Nat.min_self, Nat.zero_add, hsc, hst2]
      simp
     simp only [e1, e2]
     exact if_neg Bool.false_ne_true
    ·have : n + 1 - (k + 1 - k) = n := by omega
     rw [this]
     have hF : l.take (k * z) ++ (es ++ l.drop ((k + 1) * z)) = l' := by
      rw [hl']; unfold over; rw [hlen', hqz2, List.append_assoc]
     rw [hF, ← hll]
     exact .of i n _ _ (by rw [hs1]; exact hi) (ASt.blk?_put_self _ _ _ (by omega)) (Nat.le_refl _) (by omega)
    ·have hni : i ≠ q' := fun e => hq' (by rw [e]; rfl)
     rw [ASt.get_put_ne _ _ _ _ hni, hs1, ASt.get_put_ne _ _ _ _ hni]
end Go.Cl
