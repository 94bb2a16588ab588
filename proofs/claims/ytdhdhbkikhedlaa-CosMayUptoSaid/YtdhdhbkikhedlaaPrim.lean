/-
  The clean machine, part 19: functions that the model stands in for: what the machine does there is what the model does.
-/
import Derived.Test.YtdhdhbkikhedlaaPrimD
import Derived.Test.YtdhdhbkikhedlaaMcB
import Derived.Laws.AppendOwn
import Derived.KernelRfl
namespace Go.Cl
open Go.RowKit
def ExtAt (P : Program) (g : FuncId) (e : Array Value → Sem Value) : Prop :=
  ∃ fn, P.funcs[g]? = some fn ∧ (fn.name == "runtime.NumGoroutine") = false ∧ fn.body.isNone = true ∧ Extern.findNext fn = none ∧ Extern.find fn = some e
def PrimAt (P : Program) (e : Array Value → Sem Value) (p : Prim) : Prop :=
  ∀ (base : Nat) (S : St) (args : List Value) (v : Value) (s' : ASt), SR base S → p args S.s = some (v, s') → ∀ args' : Array Value, VRL S args args'.toList →
    ∃ T v', (e args').run P S.w = .ok v' T.w ∧ T.s = s' ∧ VR T v v' ∧ Good base S T
theorem PrimAt.ok {P : Program} {g : FuncId} {e : Array Value → Sem Value} {p : Prim} (Pre : Nat → World → Prop) (he : ExtAt P g e) (hf : PrimFr p) (h : PrimAt P e p) : PrimOk P Pre g p := by
  intro base S s args v s' hss hs _ hp args' hva
  obtain ⟨t', k1, k2, _⟩ := hf s S.s _ args v s' hss (hss.wf hs.wf) hp
  obtain ⟨T, v', h1, h2, h3, h4⟩ := h base S args v t' hs k1 args' hva
  obtain ⟨fn, e1, e2, e3, e4, e5⟩ := he
  refine .inr ⟨T, v', ?_, by rw [h2]; exact k2, h3, h4⟩
  rw [run_callFunc_extern e1 e2 e3 e4 e5, h1]
  rfl
theorem VRL.arr1 {S : St} {a : Value} {args : Array Value} (h : VRL S [a] args.toList) : ∃ a', args = #[a'] ∧ VR S a a' := by
  obtain ⟨a', r, e, h1, h2⟩ := h.cons_inv
  rw [h2.nil_inv] at e
  exact ⟨a', by rw [← Array.toList_inj, e], h1⟩
theorem VRL.arr2 {S : St} {a b : Value} {args : Array Value} (h : VRL S [a, b] args.toList) : ∃ a' b', args = #[a', b'] ∧ VR S a a' ∧ VR S b b' := by
  obtain ⟨a', r, e, h1, h2⟩ := h.cons_inv
  obtain ⟨b', r2, e2, h3, h4⟩ := h2.cons_inv
  rw [h4.nil_inv] at e2
  rw [e2] at e
  exact ⟨a', b', by rw [← Array.toList_inj, e], h1, h3⟩
theorem pIndexByteStr_fr : PrimFr pIndexByteStr := by
  intro s s' X args v t h hw hp
  unfold pIndexByteStr at hp ⊢
  split at hp
  · injection hp with hp; injection hp with e1 e2; subst e1; subst e2; exact ⟨_, rfl, h, Keeps.refl hw⟩
  · cases hp
theorem pIndexByteStr_at {P : Program} : PrimAt P Extern.BytealgIndexByte.indexByte pIndexByteStr := by
  intro base S args v s' hs hp args' hva
  unfold pIndexByteStr at hp
  split at hp
  · injection hp with hp; injection hp with e1 e2; subst e1; subst e2
    obtain ⟨a', b', rfl, ha, hb⟩ := hva.arr2
    cases ha; cases hb
    exact ⟨S, _, run_indexByte_string _ _ _, rfl, .int _ _, Good.refl hs⟩
  · cases hp
theorem pCmpStr_fr : PrimFr pCmpStr := by
  intro s s' X args v t h hw hp
  unfold pCmpStr at hp ⊢
  split at hp
  · injection hp with hp; injection hp with e1 e2; subst e1; subst e2; exact ⟨_, rfl, h, Keeps.refl hw⟩
  · cases hp
theorem pCmpStr_at {P : Program} : PrimAt P Extern.BytealgCompare.compare pCmpStr := by
  intro base S args v s' hs hp args' hva
  unfold pCmpStr at hp
  split at hp
  · injection hp with hp; injection hp with e1 e2; subst e1; subst e2
    obtain ⟨a', b', rfl, ha, hb⟩ := hva.arr2
    cases ha; cases hb
    refine ⟨S, _, ?_, rfl, .int _ _, Good.refl hs⟩
    rename_i a b
    have hdef : Extern.BytealgCompare.compare #[.string a, .string b] = (do pure (goInt (Extern.BytealgCompare.cmp (← Extern.Bytes.bytesOf (.string a)) (← Extern.Bytes.bytesOf (.string b))))) := rfl
    rw [hdef]
    simp [Extern.Bytes.bytesOf, goInt]
  · cases hp
theorem run_under {P : Program} {t e : TypeId} (ht : P.underlying t = some (.slice e)) (w : World) : ∃ u i, (Extern.Rtype.under t).run P w = .ok (u, i) w ∧ i.desc = .slice e := by
  unfold Program.underlying at ht
  cases hi : P.info? t with
  | none => rw [hi] at ht; cases ht
  | some i =>
    rw [hi] at ht
    cases hd : i.desc with
    | named nm u =>
      have ht : (P.info? u).map (·.desc) = some (.slice e) := by
        cases i
        simp only at hd
        subst hd
        exact ht
      obtain ⟨j, hj, hjd⟩ := Option.map_eq_some_iff.mp ht
      exact ⟨u, j, by simp [Extern.Rtype.under, typeInfo, hi, hd, hj], hjd⟩
    | slice e2 =>
      have : i.desc = .slice e := by
        cases i
        simp only at hd
        subst hd
        simpa using ht
      exact ⟨t, i, by simp [Extern.Rtype.under, typeInfo, hi, hd], this⟩
    | _ =>
      exfalso
      cases i
      simp only at hd
      subst hd
      simp at ht
theorem run_kind {P : Program} {t e : TypeId} (ht : P.underlying t = some (.slice e)) (w : World) : (Extern.Rtype.kind t).run P w = .ok 23 w := by
  obtain ⟨u, i, h1, h2⟩ := run_under ht w
  simp [Extern.Rtype.kind, h1, h2]
theorem pValueOf_fr (P : Program) : PrimFr (pValueOf P) := by
  intro s s' X args v t h hw hp
  unfold pValueOf at hp ⊢
  split at hp
  · split at hp
    · split at hp
      · rename_i q hq
        injection hp with hp; injection hp with e1 e2; subst e1; subst e2
        obtain ⟨t', k1, k2, k3⟩ := newPtr_fr h hw hq
        rw [k1]
        exact ⟨_, rfl, k2, k3⟩
      · cases hp
    · cases hp
  · cases hp
theorem pValueOf_at {P : Program} : PrimAt P (fun args => Extern.ReflectliteValue.unpack (args.getD 0 (.tuple #[]))) (pValueOf P) := by
  intro base S args v s' hs hp args' hva
  unfold pValueOf at hp
  split at hp
  case h_2 => cases hp
  rename_i t v0
  split at hp
  case h_2 => cases hp
  rename_i e a n c hu
  split at hp
  case h_2 => cases hp
  rename_i p s1 hn
  injection hp with hp; injection hp with e1 e2; subst e1; subst e2
  obtain ⟨a', rfl, ha⟩ := hva.arr1
  cases ha with
  | iface _ _ v' hv =>
  have hvl : VRL S [.slice a n c] #[v'].toList := VRL.cons hv VRL.nil
  obtain ⟨b, k0, T, k1, k2, k3, k4⟩ := newPtr_at hs (Spot.self hs (room_of_ptr hn)) hn #[v'] t hvl
  have hcs : v'.cells = #[v'] := by cases hv <;> rfl
  refine ⟨T, .agg #[.pointer (some ⟨P.globals.size, t, none⟩), .pointer (some ⟨S.w.heap.size, 0, none⟩), .int .u64 151], ?_, ?_, VRL.toList (VRL.cons (.raw _ _) (VRL.cons k3 (VRL.cons (.int _ _) VRL.nil))), k4⟩
  · rw [k2]
    simp [Extern.ReflectliteValue.unpack, Extern.ReflectliteValue.mk, newVar, newRow, hcs, Extern.Rtype.handle, typeHandle, run_kind hu, Extern.ReflectliteValue.flagIndir]
  · rw [k0]; exact k1
theorem partsAny151 (h : Value) (a : Addr) : Extern.ReflectliteValue.partsAny (.agg #[h, .pointer (some a), .int .u64 151]) = (do pure (some (← Extern.Rtype.ofHandle h, a, (151 : Int).toNat))) := by kernel_rfl
theorem pLen_fr (P : Program) : PrimFr (pLen P) := by
  intro s s' X args v t h hw hp
  unfold pLen at hp ⊢
  split at hp
  · split at hp
    · split at hp
      · split at hp
        · rename_i hq
          injection hp with hp; injection hp with e1 e2; subst e1; subst e2
          rw [loadA_fr h hq]
          exact ⟨_, rfl, h, Keeps.refl hw⟩
        · cases hp
      · cases hp
    · cases hp
  · cases hp
theorem pLen_at {P : Program} : PrimAt P (Extern.ReflectliteValue.method (Extern.ReflectliteValue.valueError "reflectlite.Value.Len" 0) Extern.ReflectliteValue.len) (pLen P) := by
  intro base S args v s' hs hp args' hva
  unfold pLen at hp
  split at hp
  case h_2 => cases hp
  rename_i cs
  split at hp
  case h_2 => cases hp
  rename_i b t i off c fl hcs
  split at hp
  case h_2 => cases hp
  rename_i e hc hu
  simp only [Bool.and_eq_true, Nat.beq_eq, Bool.not_eq_true', decide_eq_true_eq] at hc
  obtain ⟨⟨rfl, hpk⟩, rfl⟩ := hc
  split at hp
  case h_2 => cases hp
  rename_i a0 n c0 hl
  injection hp with hp; injection hp with e1 e2; subst e1; subst e2
  obtain ⟨a', rfl, ha⟩ := hva.arr1
  obtain ⟨cs', rfl, hcv⟩ := ha.agg_inv
  rw [hcs] at hcv
  obtain ⟨v1, r1, q1, w1, hcv⟩ := hcv.cons_inv
  obtain ⟨v2, r2, q2, w2, hcv⟩ := hcv.cons_inv
  obtain ⟨v3, r3, q3, w3, hcv⟩ := hcv.cons_inv
  rw [hcv.nil_inv] at q3
  subst q3; subst q2
  cases w1
  cases w3
  obtain ⟨adr, rfl, hr⟩ := id w2.ptr_inv
  have hcs' : cs' = #[.pointer (some ⟨P.globals.size, t, none⟩), .pointer (some adr), .int .u64 151] := by rw [← Array.toList_inj, q1]
  subst hcs'
  obtain ⟨u, ti, h1, h2⟩ := run_under hu S.w
  obtain ⟨x', h3, h4⟩ := loadA_ok hs w2 hl
  have h5 : (loadVar t adr).run P S.w = .ok x' S.w := by
    simpa [Instr.loadAt, Instr.sureAddr] using h3
  obtain ⟨y', h6, h7⟩ := lenA_ok (P := P) hs (ty := 0) (ts := #[t]) (as := #[x']) (t := t) (v := .int .i64 n) h4 (by simp [lenA, hu]) rfl rfl
  have h8 : y' = .int .i64 n := by cases h7; rfl
  rw [h8] at h6
  refine ⟨S, .int .i64 n, ?_, rfl, .int _ _, Good.refl hs⟩
  have hdef : ∀ (zero : Sem Value) (f : TypeId → Addr → Nat → Nat → Sem Value) (x : Value), Extern.ReflectliteValue.method zero f #[x] = (do
      match ← Extern.ReflectliteValue.parts x with
      | none => zero
      | some (t, a, fl) => f t a fl (fl % 32)) := fun zero f x => rfl
  have hparts : (Extern.ReflectliteValue.parts (.agg #[.pointer (some ⟨P.globals.size, t, none⟩), .pointer (some adr), .int .u64 151])).run P S.w = .ok (some (t, adr, (151 : Int).toNat)) S.w := by
    have hh : (Extern.Rtype.ofHandle (.pointer (some ⟨P.globals.size, t, none⟩))).run P S.w = .ok t S.w := by simp [Extern.Rtype.ofHandle, handleType]
    have hp : ∀ q, (Extern.Rtype.noPack q t).run P S.w = .ok () S.w := fun q => by simp [Extern.Rtype.noPack, hpk]
    have hpa : (Extern.ReflectliteValue.partsAny (.agg #[.pointer (some ⟨P.globals.size, t, none⟩), .pointer (some adr), .int .u64 151])).run P S.w = .ok (some (t, adr, (151 : Int).toNat)) S.w := by
      rw [partsAny151]
      generalize (151 : Int).toNat = k
      simp [hh]
    unfold Extern.ReflectliteValue.parts
    generalize (151 : Int).toNat = k at *
    rw [Sem.run_bind, hpa]
    simp [hp]
  have hlen : (Extern.ReflectliteValue.len t adr (151 : Int).toNat ((151 : Int).toNat % 32)).run P S.w = .ok (.int .i64 n) S.w := by
    have e : (151 : Int).toNat % 32 = 23 := by decide
    rw [e]
    unfold Extern.ReflectliteValue.len
    simp [h1, h2, h5, h6]
  rw [hdef]
  simp only [Sem.run_bind, hparts, Result.andThen_ok]
  exact hlen
theorem LibFr.cons {g : Nat} {p : Prim} {l : Prims} (h : PrimFr p) (k : LibFr l) : LibFr ((g, p) :: l) := by
  intro q r hq
  simp only [Prims.at] at hq
  split at hq
  · obtain rfl := Option.some.inj hq; exact h
  · exact k q r hq
theorem LibOk.cons {P : Program} {Pre : Nat → World → Prop} {g : Nat} {p : Prim} {l : Prims} (h : PrimOk P Pre g p) (k : LibOk P Pre l) : LibOk P Pre ((g, p) :: l) := by
  intro q r hq
  simp only [Prims.at] at hq
  split at hq
  · rename_i hc
    obtain rfl := Option.some.inj hq
    obtain rfl : g = q := Nat.eq_of_beq_eq_true hc
    exact h
  · exact k q r hq
end Go.Cl
