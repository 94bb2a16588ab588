/-
  The clean machine, part 9: lengths, the least and the greatest, maps; then any operation.
-/
import Derived.Test.YtbakljlaladpoaaCl8
namespace Go.Cl
open Go.RowKit

theorem ER.length {S : St} : ∀ {l : List (Value × Value)} {l' : List MapEntry}, ER S l l' → l'.length = l.length
  | [], [], _ => rfl
  | (_, _) :: _, _ :: _, h => by simp [ER.length h.2.2]
  | [], _ :: _, h => h.elim
  | _ :: _, [], h => h.elim

theorem run_getMap {P : Program} {w : World} {r : Nat} {es : Array MapEntry} {clk : Nat} (h : w.heap[r]? = some (.map es clk)) : (getObj r).run P w = .ok (.map es clk) w := by
  simp only [getObj, Sem.run, h]

theorem lenA_ok {P : Program} {base : Nat} {S : St} (h : SR base S) {t ty : TypeId} {x x' v : Value} (hx : VR S x x') (hl : lenA P S.s t x = some v) {ts : Array TypeId} {as : Array Value} (h0 : ts[0]? = some t) (a0 : as[0]? = some x') :
    Reads P S (Builtin.len_ ts ty as) v := by
  unfold lenA at hl
  split at hl
  · rename_i b hu
    cases hx
    obtain rfl := Option.some.inj hl
    rw [← size_data b]
    exact ⟨_, by simp [Builtin.len_, h0, a0, run_underlying hu, goInt], .int _ _⟩
  · rename_i n e hu
    obtain rfl := Option.some.inj hl
    exact ⟨_, by simp [Builtin.len_, h0, a0, run_underlying hu, goInt], .int _ _⟩
  · rename_i e a n c hu
    obtain rfl := Option.some.inj hl
    cases hx <;> exact ⟨_, by simp [Builtin.len_, h0, a0, run_underlying hu, goInt], .int _ _⟩
  · rename_i k e hu
    cases hx
    obtain rfl := Option.some.inj hl
    exact ⟨_, by simp [Builtin.len_, h0, a0, run_underlying hu, goInt], .int _ _⟩
  · rename_i k e r hu
    cases hx
    split at hl
    · rename_i es he
      obtain rfl := Option.some.inj hl
      obtain ⟨_, es', clk, h1, h2⟩ := h.map r es he
      have hlen := h2.length
      refine ⟨_, ?_, .int _ _⟩
      simp only [Array.length_toList] at hlen
      simp [Builtin.len_, h0, a0, run_underlying hu, run_getMap h1, goInt, hlen]
    · cases hl
  · cases hl

theorem minA_ok {P : Program} {S : St} {x y x' y' v : Value} (hx : VR S x x') (hy : VR S y y') (h : minA x y = some v) : Reads P S (Builtin.min2 x' y') v := by
  unfold minA at h
  split at h
  · cases hx; cases hy
    obtain rfl := Option.some.inj h
    exact ⟨_, by simp [Builtin.min2], .int _ _⟩
  · cases h
theorem maxA_ok {P : Program} {S : St} {x y x' y' v : Value} (hx : VR S x x') (hy : VR S y y') (h : maxA x y = some v) : Reads P S (Builtin.max2 x' y') v := by
  unfold maxA at h
  split at h
  · cases hx; cases hy
    obtain rfl := Option.some.inj h
    exact ⟨_, by simp [Builtin.max2], .int _ _⟩
  · cases h
theorem foldA_ok {P : Program} {S : St} (g : Value → Value → Option Value) (g' : Value → Value → Sem Value) (hg : ∀ {x y x' y' v : Value}, VR S x x' → VR S y y' → g x y = some v → Reads P S (g' x' y') v) :
    ∀ {l l' : List Value} {x x' v : Value}, VR S x x' → VRL S l l' → foldA g x l = some v → Reads P S (l'.foldlM g' x') v := by
  intro l
  induction l with
  | nil => intro l' x x' v hx hl h; rw [hl.nil_inv]; simp only [foldA] at h; obtain rfl := Option.some.inj h; exact ⟨_, by simp, hx⟩
  | cons y l ih =>
    intro l' x x' v hx hl h
    obtain ⟨y', r', rfl, h1, h2⟩ := hl.cons_inv
    simp only [foldA] at h
    split at h
    · rename_i u hu
      obtain ⟨u', k1, k2⟩ := hg hx h1 hu
      obtain ⟨v', k3, k4⟩ := ih k2 h2 h
      exact ⟨v', by simp [List.foldlM_cons, k1, k3], k4⟩
    · cases h

/-! Maps. -/
theorem ba_beq (a b : ByteArray) : (a == b) = (a.data.toList == b.data.toList) := by
  show (a.data == b.data) = (a.data.toList == b.data.toList)
  by_cases h : a.data = b.data
  · rw [h]; simp
  · have h2 : ¬ a.data.toList = b.data.toList := fun e => h (Array.toList_inj.1 e)
    rw [beq_eq_false_iff_ne.2 h, beq_eq_false_iff_ne.2 h2]
theorem ba_beq_self (a : ByteArray) : (a == a) = true := by rw [ba_beq]; simp

theorem keyEq_ok {P : Program} {t : TypeId} {a b : Value} {r : Bool} (h : keyEq P t a b = some r) : ∃ d, P.underlying t = some d ∧ Instr.sameNow d a b = some r ∧ (r = true → a = b) ∧ (∀ n, r = true → Instr.sameBits n b a = true) := by
  unfold keyEq at h
  split at h
  · rename_i k0 k x k' y hu
    split at h
    · rename_i hk
      subst hk
      obtain rfl := Option.some.inj h
      refine ⟨_, hu, by simp [Instr.sameNow], fun e => ?_, fun n e => ?_⟩
      · simp at e; rw [e]
      · simp at e; cases n <;> simp [Instr.sameBits, e]
    · cases h
  · rename_i x y hu
    obtain rfl := Option.some.inj h
    refine ⟨_, hu, by simp only [Instr.sameNow, ba_beq], fun e => ?_, fun n e => ?_⟩
    · rw [ba_ext (eq_of_beq e)]
    · have := ba_ext (eq_of_beq e)
      subst this
      cases n <;> simp [Instr.sameBits, ba_beq_self]
  · cases h

theorem findA_ok {P : Program} {S : St} {t : TypeId} {k : Value} {d : TypeDesc} (hd : P.underlying t = some d) : ∀ {es : List (Value × Value)} {es' : List MapEntry} {r : Option Value} (i : Nat), ER S es es' → findA P t k es = some r →
    (r = none ∧ Instr.findNow d k es' i = some none) ∨ ∃ v v' j, r = some v ∧ Instr.findNow d k es' i = some (some (j, v')) ∧ VR S v v'
  | [], [], r, i, _, h => by simp only [findA] at h; obtain rfl := Option.some.inj h; exact .inl ⟨rfl, rfl⟩
  | (k1, v1) :: es, e :: es', r, i, he, h => by
    obtain ⟨h1, h2, h3⟩ := he
    simp only [findA] at h
    split at h
    · rename_i hk
      obtain rfl := Option.some.inj h
      obtain ⟨d', hd', hs, _⟩ := keyEq_ok hk
      rw [hd] at hd'; obtain rfl := Option.some.inj hd'
      exact .inr ⟨v1, e.val, i, rfl, by simp only [Instr.findNow, h1, hs], h2⟩
    · rename_i hk
      obtain ⟨d', hd', hs, _⟩ := keyEq_ok hk
      rw [hd] at hd'; obtain rfl := Option.some.inj hd'
      have := findA_ok hd (i + 1) h3 h
      simp only [Instr.findNow, h1, hs]
      exact this
    · cases h
  | [], _ :: _, _, _, he, _ => he.elim
  | _ :: _, [], _, _, he, _ => he.elim

theorem run_findKey {P : Program} {w : World} {t : TypeId} {d : TypeDesc} {k : Value} {es : List MapEntry} {r : Option (Nat × Value)} (hd : P.underlying t = some d) (h : Instr.findNow d k es 0 = some r) : (Instr.findKey t k es).run P w = .ok r w := by
  simp [Instr.findKey, run_underlying hd, h]

theorem keyKind_ok {P : Program} {w : World} {t : TypeId} {k : Value} (h : keyKind P t k = true) (e : Bool) (n : Nat) : (Instr.checkKey e (n + 1) t k).run P w = .ok () w := by
  unfold keyKind at h
  split at h
  · rename_i hu; simp [Instr.checkKey, run_underlying hu]
  · rename_i hu; simp [Instr.checkKey, run_underlying hu]
  · cases h
theorem keyKind_desc {P : Program} {t : TypeId} {k : Value} (h : keyKind P t k = true) : ∃ d, P.underlying t = some d := by
  unfold keyKind at h
  split at h
  · exact ⟨_, ‹_›⟩
  · exact ⟨_, ‹_›⟩
  · cases h
theorem keyKind_vr {P : Program} {S : St} {t : TypeId} {k k' : Value} (h : keyKind P t k = true) (hk : VR S k k') : k' = k := by
  unfold keyKind at h
  split at h
  · cases hk; rfl
  · cases hk; rfl
  · cases h

theorem lookupA_ok {P : Program} {base : Nat} {S : St} (h : SR base S) {t : TypeId} {m k m' k' v : Value} {ok : Bool} (hm : VR S m m') (hk : VR S k k') (hl : lookupA P S.s t m k ok = some v) : Reads P S (Instr.lookup t m' k' ok) v := by
  unfold lookupA at hl
  split at hl
  case h_2 => cases hl
  rename_i kt et hu
  split at hl
  case h_2 => cases hl
  rename_i z hz hkk
  obtain rfl := keyKind_vr hkk hk
  obtain ⟨d, hd⟩ := keyKind_desc hkk
  split at hl
  case isFalse => cases hl
  rename_i hpl
  have hck : ∀ (e : Bool), (Instr.checkKey e 10000 kt k').run P S.w = .ok () S.w := fun e => keyKind_ok hkk e 9999
  -- what the map holds
  have main : ∀ (es' : List MapEntry) (r : Option (Nat × Value)) (rv : Option Value) (arr : Array MapEntry), arr.toList = es' → Instr.findNow d k' es' 0 = some r → ((rv = none ∧ r = none) ∨ ∃ u u' j, rv = some u ∧ r = some (j, u') ∧ VR S u u') →
      (match rv with | some v => some (if ok then Value.tuple #[v, .bool true] else v) | none => some (if ok then Value.tuple #[z, .bool false] else z)) = some v →
      ((m' = .map none ∧ arr = #[]) ∨ ∃ r clk, m' = .map (some r) ∧ S.w.heap[r]? = some (.map arr clk)) → Reads P S (Instr.lookup t m' k' ok) v := by
    intro es' r rv arr harr hf hrel hv hget
    have hfk : (Instr.findKey kt k' arr.toList).run P S.w = .ok r S.w := run_findKey hd (by rw [harr]; exact hf)
    rcases hrel with ⟨rfl, rfl⟩ | ⟨u, u', j, rfl, rfl, hu2⟩
    · simp only at hv
      obtain rfl := Option.some.inj hv
      refine ⟨if ok then .tuple #[z, .bool false] else z, ?_, ?_⟩
      · rcases hget with ⟨rfl, rfl⟩ | ⟨r, clk, rfl, hr⟩
        · simp only [Instr.lookup, Sem.run_bind, run_underlying hu, Result.andThen_ok, hck, hfk, run_zeroValue hz, Sem.run_pure]
        · simp only [Instr.lookup, Sem.run_bind, run_underlying hu, Result.andThen_ok, run_getMap hr, hck, hfk, run_zeroValue hz, Sem.run_pure]
      · cases ok
        · exact plainV_ok hpl
        · exact VRL.tuple (l := [z, .bool false]) (l' := [z, .bool false]) (VRL.cons (plainV_ok hpl) (VRL.cons (.bool _) VRL.nil))
    · simp only at hv
      obtain rfl := Option.some.inj hv
      refine ⟨if ok then .tuple #[u', .bool true] else u', ?_, ?_⟩
      · rcases hget with ⟨rfl, rfl⟩ | ⟨r, clk, rfl, hr⟩
        · simp only [Instr.lookup, Sem.run_bind, run_underlying hu, Result.andThen_ok, hck, hfk, Sem.run_pure]
        · simp only [Instr.lookup, Sem.run_bind, run_underlying hu, Result.andThen_ok, run_getMap hr, hck, hfk, Sem.run_pure]
      · cases ok
        · exact hu2
        · exact VRL.tuple (l := [u, .bool true]) (l' := [u', .bool true]) (VRL.cons hu2 (VRL.cons (.bool _) VRL.nil))
  split at hl
  · rename_i v0 hfind
    split at hfind
    · cases hfind
    · rename_i r
      cases hm
      split at hfind
      · rename_i es he
        obtain ⟨_, es', clk, h1, h2⟩ := h.map r es he
        rcases findA_ok hd 0 h2 hfind with ⟨e, _⟩ | ⟨u, u', j, e, hf, hvr⟩
        · cases e
        · exact main es'.toList _ (some v0) es' rfl hf (.inr ⟨u, u', j, e, rfl, hvr⟩) hl (.inr ⟨_, clk, rfl, h1⟩)
      · cases hfind
    · cases hfind
  · rename_i hfind
    split at hfind
    · cases hm
      exact main [] none none #[] rfl rfl (.inl ⟨rfl, rfl⟩) hl (.inl ⟨rfl, rfl⟩)
    · rename_i r
      cases hm
      split at hfind
      · rename_i es he
        obtain ⟨_, es', clk, h1, h2⟩ := h.map r es he
        rcases findA_ok hd 0 h2 hfind with ⟨_, hf⟩ | ⟨u, u', j, e, _, _⟩
        · exact main es'.toList none none es' rfl hf (.inl ⟨rfl, rfl⟩) hl (.inr ⟨_, clk, rfl, h1⟩)
        · cases e
      · cases hfind
    · cases hfind
  · cases hl

theorem updA_ok {P : Program} {S : St} {t : TypeId} {k v v' : Value} {d : TypeDesc} (hd : P.underlying t = some d) (hv : VR S v v') : ∀ {es l : List (Value × Value)} {es' : List MapEntry} (i : Nat), ER S es es' → updA P t k v es = some l →
    (Instr.findNow d k es' i = some none ∧ ∀ born, ER S l (es' ++ [{ key := k, val := v', born }])) ∨
    ∃ j u e, Instr.findNow d k es' i = some (some (i + j, u)) ∧ es'[j]? = some e ∧ (∀ n, Instr.sameBits n e.key k = true) ∧ ER S l (es'.modify j fun e => { e with key := k, val := v' })
  | [], l, [], i, _, h => by
    simp only [updA] at h
    obtain rfl := Option.some.inj h
    exact .inl ⟨rfl, fun born => ⟨rfl, hv, trivial⟩⟩
  | (k1, v1) :: es, l, e :: es', i, he, h => by
    obtain ⟨h1, h2, h3⟩ := he
    simp only [updA] at h
    split at h
    · rename_i hk
      obtain rfl := Option.some.inj h
      obtain ⟨d', hd', hs, heq, hsb⟩ := keyEq_ok hk
      rw [hd] at hd'; obtain rfl := Option.some.inj hd'
      refine .inr ⟨0, e.val, e, by simp only [Instr.findNow, h1, hs, Nat.add_zero], rfl, fun n => by rw [h1]; exact hsb n rfl, ?_⟩
      simp only [List.modify_zero_cons]
      exact ⟨heq rfl, hv, h3⟩
    · rename_i hk
      obtain ⟨d', hd', hs, heq, hsb⟩ := keyEq_ok hk
      rw [hd] at hd'; obtain rfl := Option.some.inj hd'
      split at h
      · rename_i l2 hl2
        obtain rfl := Option.some.inj h
        rcases updA_ok hd hv (i + 1) h3 hl2 with ⟨q1, q2⟩ | ⟨j, u, e2, q1, q2, q3, q4⟩
        · exact .inl ⟨by simp only [Instr.findNow, h1, hs]; exact q1, fun born => ⟨h1, h2, q2 born⟩⟩
        · refine .inr ⟨j + 1, u, e2, by simp only [Instr.findNow, h1, hs]; rw [q1]; congr 3; omega, by simpa using q2, q3, ?_⟩
          simp only [List.modify_succ_cons]
          exact ⟨h1, h2, q4⟩
      · cases h
    · cases h
  | [], _, _ :: _, _, he, _ => he.elim
  | _ :: _, _, [], _, he, _ => he.elim

def DoesU (P : Program) (base : Nat) (S : St) (m : Sem Unit) (s' : ASt) : Prop := ∃ T, T.s = s' ∧ m.run P S.w = .ok () T.w ∧ Good base S T

theorem run_setMap {P : Program} {w : World} {r : Nat} {es : Array MapEntry} {clk : Nat} (h : w.heap[r]? = some (.map es clk)) (o : Obj) : (setObj r o).run P w = .ok () { w with heap := w.heap.setIfInBounds r o } := by
  simp only [setObj, Sem.run, h]

theorem setObj_good {base : Nat} {S : St} (h : SR base S) {r : Nat} {es l : List (Value × Value)} (he : S.s.map? r = some es) {es' es2 : Array MapEntry} {clk clk2 : Nat} (h1 : S.w.heap[S.e.mp r]? = some (.map es' clk)) (h2 : ER S l es2.toList) :
    Good base S ⟨S.s.put r (.map l), S.e, { S.w with heap := S.w.heap.setIfInBounds (S.e.mp r) (.map es2 clk2) }⟩ := by
  have hlt := lt_of_cells h1
  have hb : S.s.blk? r = none := by
    cases hq : S.s.blk? r with
    | none => rfl
    | some b => exact (blk_not_map hq he).elim
  refine SR.changeMap h r S.s.next l S.e.mp _ (h.mlt he) (Nat.le_refl _) h.room (.inl (h.mlt he)) hb (fun _ _ => rfl) (fun _ _ => rfl) (fun k hk _ => by simp only; rw [Array.getElem?_setIfInBounds_ne (Ne.symm hk)]) ?_ (h.map r es he).1 ?_ ?_ ?_
  · intro arr E fr hk; rw [h1] at hk; cases hk
  · exact ⟨es2, clk2, by simp only; rw [Array.getElem?_setIfInBounds_self_of_lt hlt], h2⟩
  · intro r' es'' hr hq e
    exact hr (h.mapInj r' r es'' es hq he e)
  · exact ⟨rfl, rfl, rfl, by simp, fun k hk => by simp only; rw [Array.getElem?_setIfInBounds_ne (by have := (h.map r es he).1; omega)]⟩

theorem mapUpdateA_ok {P : Program} {base : Nat} {S : St} (h : SR base S) {t : TypeId} {m k v m' k' v' : Value} {s' : ASt} (hm : VR S m m') (hk : VR S k k') (hv : VR S v v') (hu : mapUpdateA P S.s t m k v = some s') : DoesU P base S (Instr.mapUpdate t m' k' v') s' := by
  unfold mapUpdateA at hu
  split at hu
  case h_2 => cases hu
  rename_i kt et r hut
  cases hm
  split at hu
  case h_2 => cases hu
  rename_i es he hkk
  obtain rfl := keyKind_vr hkk hk
  obtain ⟨d, hd⟩ := keyKind_desc hkk
  have hck : ∀ (e : Bool), (Instr.checkKey e 10000 kt k').run P S.w = .ok () S.w := fun e => keyKind_ok hkk e 9999
  split at hu
  case h_2 => cases hu
  rename_i l hl
  obtain rfl := Option.some.inj hu
  obtain ⟨_, es', clk, h1, h2⟩ := h.map r es he
  rcases updA_ok hd hv 0 h2 hl with ⟨q1, q2⟩ | ⟨j, u, e, q1, q2, q3, q4⟩
  · refine ⟨_, rfl, ?_, setObj_good h he h1 (es2 := es'.push { key := k', val := v', born := clk }) (clk2 := clk + 1) (by rw [Array.toList_push]; exact q2 clk)⟩
    simp only [Instr.mapUpdate, Sem.run_bind, run_underlying hut, Result.andThen_ok, run_getMap h1, hck, run_findKey hd q1, run_setMap h1]
  · refine ⟨_, rfl, ?_, setObj_good h he h1 (es2 := es'.modify j fun e => { e with key := k', val := v' }) (clk2 := clk) (by rw [Array.toList_modify]; exact q4)⟩
    rw [Nat.zero_add] at q1
    have hkey : ((es'[j]?).map (·.key)).getD k' = e.key := by
      have : es'[j]? = some e := by rw [← Array.getElem?_toList]; exact q2
      simp [this]
    have hstay : (Instr.keyThatStays e.key k').run P S.w = .ok k' S.w := by simp [Instr.keyThatStays, q3]
    simp only [Instr.mapUpdate, Sem.run_bind, run_underlying hut, Result.andThen_ok, run_getMap h1, hck, run_findKey hd q1, hkey, hstay, run_setMap h1]

/-! copy. -/
theorem storeAt_ok {P : Program} {base : Nat} {S : St} (h : SR base S) {i off c : Nat} {a1 : Addr} (hr : RefOk S i off c a1) {vs vs' : List Value} (hv : VRL S vs vs') {s' : ASt} (hs : S.s.storeAt i off c vs = some s') : DoesU P base S (storeCells a1 vs') s' := by
  unfold ASt.storeAt at hs
  split at hs
  case h_2 => cases hs
  rename_i b hb
  split at hs
  case isFalse => cases hs
  rename_i hc
  simp only [Bool.and_eq_true, Nat.ble_eq, Nat.beq_eq] at hc
  obtain ⟨⟨⟨hown, hlow⟩, hcur⟩, hok⟩ := hc
  split at hs
  · cases hs
  rename_i hnil
  split at hs
  case h_2 => cases hs
  rename_i l hl
  obtain rfl := Option.some.inj hs
  have hlive : Live b c := ⟨hlow, by omega⟩
  obtain rfl := hr.addr hb hlive
  have hokl := hv.okCell hok
  obtain ⟨hg, arr, E, fr, h1, h2, h3⟩ := Good.store h hb hown hlive hcur hl hv (by simp)
  refine ⟨_, rfl, ?_, hg⟩
  have := run_storeCells P (S.e.loc i c).1 ((S.e.loc i c).2 + off) vs' S.w 0 arr E fr h1 h2 (by omega) hokl
  exact this

theorem cutSrc_ok {P : Program} {S : St} {y y' y2 : Value} {d k : Nat} (hy : VR S y y') (hc : cutSrc d y = some (k, y2)) :
    ∃ y2' m, VR S y2 y2' ∧ (∀ W : World, (Builtin.lenOf y').run P W = .ok m W) ∧ Nat.min m d = k ∧ ∀ z, Builtin.firstCells z k y' = Builtin.firstCells z k y2' := by
  unfold cutSrc at hc
  split at hc
  · rename_i a n c
    injection hc with hc; injection hc with e1 e2; subst e1; subst e2
    cases hy with
    | sliceNil => exact ⟨_, 0, by rw [Nat.zero_min]; exact .sliceNil, fun W => by simp [Builtin.lenOf], rfl, fun z => rfl⟩
    | slice i off _ _ a' cap h0 hz hr => exact ⟨.slice (some a') (min n d) cap, n, .slice i off _ c a' cap (by omega) hz hr, fun W => by simp [Builtin.lenOf], rfl, fun z => rfl⟩
  · rename_i b
    injection hc with hc; injection hc with e1 e2; subst e1; subst e2
    cases hy
    refine ⟨_, b.data.toList.length, .string _, fun W => by rw [← size_data]; simp [Builtin.lenOf], rfl, fun z => ?_⟩
    simp only [Builtin.firstCells]
    congr 2
    rw [← Array.toList_inj]
    simp [List.take_take]
  · cases hc

/-- clear, of a slice. -/
theorem clearA_ok {P : Program} {base : Nat} {S : St} (h : SR base S) {t ty : TypeId} {x x' v : Value} {s' : ASt} (hx : VR S x x') (ha : clearA P S.s t x = some (v, s')) {ts : Array TypeId} {as : Array Value}
    (h0 : ts[0]? = some t) (a0 : as[0]? = some x') : Does P base S (Builtin.clear_ ts ty as) v s' := by
  unfold clearA at ha
  split at ha
  · rename_i e n c hu
    cases hx
    injection ha with ha; injection ha with e1 e2; subst e1; subst e2
    exact ⟨S, _, rfl, by simp only [Builtin.clear_, h0, a0, Sem.run_bind, run_underlying hu, Result.andThen_ok]; rfl, VR.undef' S, Good.refl h⟩
  · rename_i e i off n c hu
    cases hx with
    | slice _ _ _ _ a cap hlc hz hr =>
    split at ha
    · injection ha with ha; injection ha with e1 e2; subst e1; subst e2
      exact ⟨S, _, rfl, by simp only [Builtin.clear_, h0, a0, Sem.run_bind, run_underlying hu, Result.andThen_ok]; rfl, VR.undef' S, Good.refl h⟩
    · rename_i m
      split at ha
      case h_2 => cases ha
      rename_i z zv hsz hzv
      split at ha
      case isFalse => cases ha
      rename_i hc
      simp only [Bool.and_eq_true, Nat.beq_eq, Nat.blt_eq] at hc
      obtain ⟨⟨hpl, hzn⟩, hzpos⟩ := hc
      split at ha
      case h_2 => cases ha
      rename_i s1 hst
      injection ha with ha; injection ha with e1 e2; subst e1; subst e2
      have hcap : 0 < cap := by omega
      have hzs : zv.cells.size = z := by simpa using hzn
      have hvn : VRL S (repeatL zv.cells.toList (m + 1)) (Builtin.zeroCells zv.cells (m + 1)).toList := by
        refine ⟨by rw [repeatL_length, hzn]; simp [Builtin.zeroCells, hzs], fun p hp => ?_⟩
        rw [repeatL_length, hzn] at hp
        have := zeros_ok (S := S) hpl hzn (m + 1) ((m + 1) * zv.cells.size) (by rw [hzs]; exact Nat.le_refl _) p hp
        exact this
      obtain ⟨T, hT, hstore, hg⟩ := storeAt_ok (P := P) h (hr hcap).1 hvn hst
      refine ⟨T, _, hT, ?_, VR.undef' T, hg⟩
      simp only [Builtin.clear_, h0, a0, Sem.run_bind, run_underlying hu, Result.andThen_ok, run_zeroValue hzv, hstore]
      rfl
  · cases ha

theorem copyA_ok {P : Program} {base : Nat} {S : St} (h : SR base S) {dT ty : TypeId} {x y x' y' v : Value} {s' : ASt} (hx : VR S x x') (hy : VR S y y') (ha : copyA P S.s dT x y = some (v, s')) {ts : Array TypeId} {as : Array Value}
    (h0 : ts[0]? = some dT) (a0 : as[0]? = some x') (a1 : as[1]? = some y') : Does P base S (Builtin.copy_ ts ty as) v s' := by
  unfold copyA at ha
  split at ha
  case h_2 => cases ha
  rename_i e a dLen c hu
  split at ha
  case h_2 => cases ha
  rename_i z k y2 hz hcut
  obtain ⟨y2', m, hy2, hlen, hmin, hfirst⟩ := cutSrc_ok (P := P) hy hcut
  split at ha
  · injection ha with ha; injection ha with e1 e2; subst e1; subst e2
    have hf : (Builtin.firstCells z 0 y2').run P S.w = .ok #[] S.w := by
      cases hy2 with
      | sliceNil => simp [Builtin.firstCells]
      | slice => simp [Builtin.firstCells, loadCells, loadCellsFrom]
      | string => simp [Builtin.firstCells]
      | _ => exfalso; unfold cutSrc at hcut; split at hcut <;> simp at hcut
    have hmin' : Nat.min m dLen = 0 := hmin
    refine ⟨S, .int .i64 0, rfl, ?_, .int _ _, Good.refl h⟩
    cases hx with
    | sliceNil => simp only [Builtin.copy_, h0, a0, a1, Sem.run_bind, run_underlying hu, Result.andThen_ok, hlen, hmin', run_sizeOf hz, hfirst, hf]; simp [goInt]
    | slice => simp only [Builtin.copy_, h0, a0, a1, Sem.run_bind, run_underlying hu, Result.andThen_ok, hlen, hmin', run_sizeOf hz, hfirst, hf]; simp [storeCells, goInt]
  · rename_i k
    split at ha
    case h_2 => cases ha
    rename_i k2 new i off hs
    split at ha
    case h_2 => cases ha
    rename_i t hk hst
    have hk' : k2 = k + 1 := Nat.eq_of_beq_eq_true hk
    subst hk'
    injection ha with ha; injection ha with e1 e2; subst e1; subst e2
    obtain ⟨new', hvn, _, hrun⟩ := src_ok (P := P) h hy2 hs
    cases hx with
    | slice _ _ _ _ a' cap h0' hz' hr =>
    have hcap : 0 < cap := by have : k + 1 ≤ dLen := by rw [← Nat.succ_eq_add_one, ← hmin]; exact Nat.min_le_right _ _
                              omega
    obtain ⟨T, hT, hstore, hg⟩ := storeAt_ok (P := P) h (hr hcap).1 hvn hst
    refine ⟨T, .int .i64 (k + 1), hT, ?_, .int _ _, hg⟩
    simp only [Builtin.copy_, h0, a0, a1, Sem.run_bind, run_underlying hu, Result.andThen_ok, hlen, hmin, run_sizeOf hz, hfirst, (hrun S.w rfl).2, hstore]
    simp [goInt]
end Go.Cl
