/-
  The clean machine, part 7: what makes memory.
-/
import Derived.Test.YtbakljlaladpoaaCl6
namespace Go.Cl
open Go.RowKit

/-- A step that may make memory. -/
def Does (P : Program) (base : Nat) (S : St) (m : Sem Value) (v : Value) (s' : ASt) : Prop :=
  ∃ T v', T.s = s' ∧ m.run P S.w = .ok v' T.w ∧ VR T v v' ∧ Good base S T
theorem Reads.does {P : Program} {base : Nat} {S : St} {m : Sem Value} {v : Value} (h : SR base S) (hr : Reads P S m v) : Does P base S m v S.s := by
  obtain ⟨v', h1, h2⟩ := hr
  exact ⟨S, v', rfl, h1, h2, Good.refl h⟩

/-- Such a step, whose new block is laid at a place of our choice. 's0': a state that begins there. -/
def DoesAt (P : Program) (base : Nat) (S : St) (m : Sem Value) (v : Value) (s0 s' : ASt) (next : Nat) : Prop :=
  ∃ b, s' = s0.new (.blk b) ∧ ∃ T v', T.s = ⟨Tr.set (depth s0.next) S.s.heap s0.next (.blk b), next⟩ ∧ m.run P S.w = .ok v' T.w ∧ VR T v v' ∧ Good base S T
theorem DoesAt.does {P : Program} {base : Nat} {S : St} {m : Sem Value} {v : Value} {s' : ASt} (h : DoesAt P base S m v S.s s' (S.s.next + 1)) : Does P base S m v s' := by
  obtain ⟨b, rfl, T, v', h1, h2, h3, h4⟩ := h
  exact ⟨T, v', h1, h2, h3, h4⟩

theorem newSlice_at {base : Nat} {S : St} (h : SR base S) {s0 : ASt} {next : Nat} (hsp : Spot S s0.next next) {cs : List Value} {len esz : Nat} {v : Value} {s' : ASt} (hn : newSlice s0 cs len esz = some (v, s')) (arr : Array Value) (E : TypeId) (fr : Nat × Nat) (W : World) (cap : Nat)
    (hW : Pushed S.w W (.cells arr E fr)) (hfr : fr.1 = fr.2 ∨ arr.size ≤ fr.1) (hle : cs.length ≤ arr.size) (hv : ∀ p, p < cs.length → VR S (cs.getD p undef) (arr.toList.getD p undef)) (hcap : len ≤ cap) (hc2 : cap * esz ≤ arr.size) :
    ∃ b, s' = s0.new (.blk b) ∧ ∃ T, T.s = ⟨Tr.set (depth s0.next) S.s.heap s0.next (.blk b), next⟩ ∧ T.w = W ∧ VR T v (.slice (some ⟨S.w.heap.size, 0, none⟩) len cap) ∧ Good base S T := by
  unfold newSlice at hn
  split at hn
  · injection hn with hn; injection hn with e1 e2
    subst e1; subst e2
    exact ⟨⟨cs, 1, true, esz⟩, rfl, S.pushed s0.next next ⟨cs, 1, true, esz⟩ W, rfl, rfl, .slice _ _ _ _ _ _ hcap (fun e => by omega) (fun _ => ⟨St.pushed_ref hsp _ W 0 _ (Nat.le_refl _), St.pushed_cap hsp _ W 0 _ cap arr E fr hW (by simpa using hc2)⟩),
      Good.newBlk h hsp cs esz arr E fr W hW hfr hle hv⟩
  · cases hn
theorem newSlice_ok {base : Nat} {S : St} (h : SR base S) {cs : List Value} {len esz : Nat} {v : Value} {s' : ASt} (hn : newSlice S.s cs len esz = some (v, s')) (arr : Array Value) (E : TypeId) (fr : Nat × Nat) (W : World) (cap : Nat)
    (hW : Pushed S.w W (.cells arr E fr)) (hfr : fr.1 = fr.2 ∨ arr.size ≤ fr.1) (hle : cs.length ≤ arr.size) (hv : ∀ p, p < cs.length → VR S (cs.getD p undef) (arr.toList.getD p undef)) (hcap : len ≤ cap) (hc2 : cap * esz ≤ arr.size) :
    ∃ T, T.s = s' ∧ T.w = W ∧ VR T v (.slice (some ⟨S.w.heap.size, 0, none⟩) len cap) ∧ Good base S T := by
  have hroom : S.s.room = true := by
    unfold newSlice at hn
    split at hn
    · assumption
    · cases hn
  obtain ⟨b, rfl, T, h1, h2, h3, h4⟩ := newSlice_at h (Spot.self h hroom) hn arr E fr W cap hW hfr hle hv hcap hc2
  exact ⟨T, h1, h2, h3, h4⟩
theorem newPtr_at {base : Nat} {S : St} (h : SR base S) {s0 : ASt} {next : Nat} (hsp : Spot S s0.next next) {cs : List Value} {esz : Nat} {v : Value} {s' : ASt} (hn : newPtr s0 cs esz = some (v, s')) (arr : Array Value) (E : TypeId)
    (hv : VRL S cs arr.toList) : ∃ b, s' = s0.new (.blk b) ∧ ∃ T, T.s = ⟨Tr.set (depth s0.next) S.s.heap s0.next (.blk b), next⟩ ∧ T.w = S.w.alloc (.cells arr E) ∧ VR T v (.pointer (some ⟨S.w.heap.size, 0, none⟩)) ∧ Good base S T := by
  unfold newPtr at hn
  split at hn
  · injection hn with hn; injection hn with e1 e2
    subst e1; subst e2
    have hl := hv.1
    exact ⟨⟨cs, 1, true, esz⟩, rfl, S.pushed s0.next next ⟨cs, 1, true, esz⟩ _, rfl, rfl, .ptr _ _ _ _ (St.pushed_ref hsp _ _ 0 _ (Nat.le_refl _)),
      Good.newBlk h hsp cs esz arr E (0, 0) _ ⟨rfl, rfl, rfl, rfl⟩ (.inl rfl) (by simp at hl; omega) hv.2⟩
  · cases hn

theorem run_newVar {P : Program} (w : World) (t : TypeId) (v : Value) : (newVar t v).run P w = .ok ⟨w.heap.size, 0, none⟩ (w.alloc (.cells v.cells t)) := by simp [newVar, newRow]

theorem alloc_at {P : Program} {base : Nat} {S : St} (h : SR base S) {s0 : ASt} {next : Nat} (hsp : Spot S s0.next next) {e : TypeId} {z v : Value} {esz : Nat} {s' : ASt} (hz : zeroB P e = some z) (hp : plainV z = true) (hn : newPtr s0 z.cells.toList esz = some (v, s')) :
    DoesAt P base S (Instr.alloc e true (.tuple #[])) v s0 s' next := by
  obtain ⟨b, h0, T, h1, h2, h3, h4⟩ := newPtr_at h hsp hn z.cells e (plainV_ok hp).cells
  exact ⟨b, h0, T, _, h1, by rw [h2]; simp [Instr.alloc, run_zeroValue hz, run_newVar], h3, h4⟩
theorem box_at {P : Program} {base : Nat} {S : St} (h : SR base S) {s0 : ASt} {next : Nat} (hsp : Spot S s0.next next) {e : TypeId} {x x' v : Value} {esz : Nat} {s' : ASt} (hx : VR S x x') (hn : newPtr s0 x.cells.toList esz = some (v, s')) : DoesAt P base S (Instr.box e x') v s0 s' next := by
  obtain ⟨b, h0, T, h1, h2, h3, h4⟩ := newPtr_at h hsp hn x'.cells e hx.cells
  exact ⟨b, h0, T, _, h1, by rw [h2]; simp [Instr.box, run_newVar], h3, h4⟩

/-- A block is marked: its cells stay. -/
theorem Good.freeze {base : Nat} {S : St} (h : SR base S) {i c : Nat} {b : Blk} (hb : S.s.blk? i = some b) (ho : b.own = true) (hc : Live b c) {arr : Array Value} {E : TypeId} {fr : Nat × Nat}
    (ha : S.w.heap[(S.e.loc i c).1]? = some (.cells arr E fr)) :
    Good base S ⟨S.s.put i (.blk b), S.e, S.w.freeze ⟨(S.e.loc i c).1, arr.size, none⟩ 1⟩ := by
  obtain ⟨ho1, ⟨arr0, E0, fr0, ho2, ho3⟩, ho4, ho5⟩ := h.own i b hb ho c hc
  rw [ha] at ho2
  injection ho2 with ho2; injection ho2 with e1 e2 e3
  subst e1; subst e2; subst e3
  have hne : ∀ k, k ≠ (S.e.loc i c).1 → (S.w.freeze ⟨(S.e.loc i c).1, arr.size, none⟩ 1).heap[k]? = S.w.heap[k]? := fun k hk => by
    unfold World.freeze
    rw [if_neg (by decide)]
    simp only [Array.getElem?_modify]
    rw [if_neg (by omega)]
  have hself : ∃ fr' : Nat × Nat, (S.w.freeze ⟨(S.e.loc i c).1, arr.size, none⟩ 1).heap[(S.e.loc i c).1]? = some (.cells arr E fr') ∧ (fr'.1 = fr'.2 ∨ arr.size ≤ fr'.1) := by
    unfold World.freeze
    rw [if_neg (by decide)]
    simp only [Array.getElem?_modify, if_true, ha, Option.map_some]
    refine ⟨_, rfl, ?_⟩
    by_cases hfr : fr.1 = fr.2
    · rw [if_pos (by simp [hfr])]; exact .inr (Nat.le_refl _)
    · rw [if_neg (by simp [hfr])]
      refine .inr ?_
      have : arr.size ≤ fr.1 := ho3.resolve_left hfr
      show arr.size ≤ min fr.1 arr.size
      omega
  obtain ⟨fr', hs1, hs2⟩ := hself
  have hsz : (S.w.freeze ⟨(S.e.loc i c).1, arr.size, none⟩ 1).heap.size = S.w.heap.size := by
    unfold World.freeze
    rw [if_neg (by decide)]
    simp
  have hcell : ∀ k o, (S.w.freeze ⟨(S.e.loc i c).1, arr.size, none⟩ 1).cell? ⟨k, o, none⟩ = S.w.cell? ⟨k, o, none⟩ := fun k o => by
    by_cases hk : k = (S.e.loc i c).1
    · subst hk; rw [cell_of_block _ _ _ _ _ _ hs1, cell_of_block _ _ _ _ _ _ ha]
    · exact World.cell?_of_block (hne k hk)
  have hbelow : Below base S.w (S.w.freeze ⟨(S.e.loc i c).1, arr.size, none⟩ 1) := by
    refine ⟨?_, ?_, ?_, by rw [hsz]; exact Nat.le_refl _, fun k hk => hne k (by omega)⟩ <;> (unfold World.freeze; rw [if_neg (by decide)])
  refine SR.change h i (S.e.loc i c).1 S.s.next b S.e.loc _ (h.lt hb) (Nat.le_refl _) h.room (.inl (h.lt hb)) (fun es he => blk_not_map hb he) (h.low i b hb) ?_ (fun _ _ => rfl)
    (fun k hk _ => hne k hk) (fun j bj c' hj hbj hc' e => hj (ho4 j bj hbj c' hc' e)) ?_ (fun c' hc' => by rw [hsz]; exact h.inb i b hb c' hc') ?_ ?_ ?_ ?_ hbelow (by rw [hsz]; exact Nat.le_refl _)
  · intro b0 hb0
    rw [hb] at hb0; obtain rfl := Option.some.inj hb0
    exact ⟨Nat.le_refl _, Nat.le_refl _, rfl, fun _ _ _ => rfl⟩
  · intro r es he e
    obtain ⟨_, es', clk, h2, _⟩ := h.map r es he
    rw [e, ha] at h2; cases h2
  · intro c' hc' p hp
    rw [hcell]
    exact h.cell i b hb c' hc' p hp
  · intro _ c' hc'
    obtain ⟨h1, ⟨arr1, E1, fr1, h2, h3⟩, h4, h5⟩ := h.own i b hb ho c' hc'
    refine ⟨h1, ?_, fun j bj hj hbj c1 hc1 e => hj (h4 j bj hbj c1 hc1 e), h5⟩
    by_cases hk : (S.e.loc i c').1 = (S.e.loc i c).1
    · rw [hk, ha] at h2
      injection h2 with h2; injection h2 with e1 e2 e3
      subst e1
      exact ⟨arr, E, fr', by rw [hk]; exact hs1, hs2⟩
    · exact ⟨arr1, E1, fr1, by rw [hne _ hk]; exact h2, h3⟩
  · intro j bj hj hbj hbo c1 hc1 c' hc' e
    exact hj ((h.own i b hb ho c' hc').2.2.1 j bj hbj c1 hc1 e.symm)
  · intro arr0 E0 fr0 hk
    rw [ha] at hk
    injection hk with hk; injection hk with e1 e2 e3
    subst e1; subst e2
    exact ⟨arr, fr', hs1, rfl⟩

/-! Bytes and texts. -/
theorem toBytes_ok {S : St} : ∀ {l l' : List Value} {bs : List UInt8}, VRL S l l' → toBytes l = some bs → ∃ ns : List Int, l' = ns.map (Value.int .u8) ∧ bs = ns.map (fun n => UInt8.ofNat n.toNat) := by
  intro l
  induction l with
  | nil => intro l' bs hv h; simp only [toBytes] at h; obtain rfl := Option.some.inj h; exact ⟨[], hv.nil_inv, rfl⟩
  | cons v l ih =>
    intro l' bs hv h
    obtain ⟨v', r', rfl, h1, h2⟩ := hv.cons_inv
    simp only [toBytes] at h
    split at h
    · rename_i b hb
      split at h
      · rename_i m hm
        obtain rfl := Option.some.inj h
        obtain ⟨ns, h3, h4⟩ := ih h2 hm
        unfold toByte at hb
        split at hb
        · rename_i n
          cases h1
          obtain rfl := Option.some.inj hb
          exact ⟨n :: ns, by simp [h3], by simp [h4]⟩
        · cases hb
      · cases h
    · cases h
theorem ofBytes_plain {S : St} (l : List UInt8) : VRL S (ofBytes l) (ofBytes l) := by
  induction l with
  | nil => exact VRL.nil
  | cons b l ih => exact VRL.cons (.int _ _) ih

def isSliceD : Option TypeDesc → Bool
  | some (.slice _) => true
  | _ => false

theorem convA_look {P : Program} {base : Nat} {S : St} (h : SR base S) {src dst : TypeId} {x x' v : Value} {s' : ASt} (hx : VR S x x') (hc : convA P S.s src dst x = some (v, s')) (hq : isSliceD (P.underlying dst) = false) :
    s' = S.s ∧ Reads P S (convert src dst x') v := by
  unfold convA at hc
  split at hc
  · rename_i d1 k k2 n hs hd
    injection hc with hc; injection hc with e1 e2; subst e1; subst e2
    cases hx
    exact ⟨rfl, _, by simp [convert, run_underlying hs, run_underlying hd, Conv.intToInt], .int _ _⟩
  · rename_i d1 b hs hd
    injection hc with hc; injection hc with e1 e2; subst e1; subst e2
    cases hx
    exact ⟨rfl, _, by simp [convert, run_underlying hs, run_underlying hd], .string _⟩
  · rename_i e b hs hd; rw [hd] at hq; cases hq
  · rename_i e1 e2 i off len c hs hd; rw [hd] at hq; cases hq
  · rename_i e n c hs hd
    split at hc
    · rename_i hu
      injection hc with hc; injection hc with e1 e2; subst e1; subst e2
      cases hx
      refine ⟨rfl, _, ?_, .string _⟩
      rw [run_convert_bytes_string _ _ _ _ _ _ _ hs (isU8_ok hu) hd]
      simp [Conv.bytesToString]
      rfl
    · cases hc
  · rename_i e i off len c hs hd
    split at hc
    · rename_i hu
      cases hx with
      | slice _ _ _ _ a cap h0 hz hr =>
      split at hc
      · injection hc with hc; injection hc with e1 e2; subst e1; subst e2
        refine ⟨rfl, _, ?_, .string _⟩
        rw [run_convert_bytes_string _ _ _ _ _ _ _ hs (isU8_ok hu) hd, run_bytesToString S.w a 0 cap [] (by simp [loadCells, loadCellsFrom])]
        rfl
      · rename_i m
        split at hc
        · rename_i l hl
          split at hc
          · rename_i bs hbs
            injection hc with hc; injection hc with e1 e2; subst e1; subst e2
            obtain ⟨b, hb, hlive, _, _, hln, hvl, hcell⟩ := h.cells hl
            obtain ⟨⟨b', hb', _, hadr⟩, _⟩ := hr (by omega)
            rw [hb] at hb'; obtain rfl := Option.some.inj hb'
            obtain rfl := hadr hlive.1
            obtain ⟨ns, h1, h2⟩ := toBytes_ok hvl hbs
            refine ⟨rfl, _, ?_, .string _⟩
            have hld := run_loadCells P S.w _ _ _ hcell
            rw [h1] at hld
            rw [run_convert_bytes_string _ _ _ _ _ _ _ hs (isU8_ok hu) hd, run_bytesToString S.w _ _ cap ns hld, foldl_push_bytes, h2]
            congr 2
            apply ba_ext
            rw [Array.toList_append]
            rfl
          · cases hc
        · cases hc
    · cases hc
  · cases hc

theorem textConv_at {P : Program} {base : Nat} {S : St} (h : SR base S) {s0 : ASt} {next : Nat} (hsp : Spot S s0.next next) {src dst : TypeId} {x x' v : Value} {s' : ASt} (hx : VR S x x') (hc : convA P s0 src dst x = some (v, s')) (hq : textConv P src dst = true) :
    DoesAt P base S (convert src dst x') v s0 s' next := by
  unfold textConv at hq
  split at hq
  case h_2 => cases hq
  rename_i e0 hsq hdq
  unfold convA at hc
  split at hc
  · rename_i hs hd; rw [hdq] at hd; cases hd
  · rename_i hs hd; rw [hdq] at hd; cases hd
  · rename_i e b hs hd
    split at hc
    · rename_i hu
      simp only [Bool.and_eq_true, Nat.ble_eq] at hu
      cases hx
      have hrun := run_bytes_of_string (P := P) S.w src dst e b hs hd (isU8_ok hu.1)
      have hge := grownCap_ge S.w b.size 0 e
      have hsz : (bytesRow b (grownCap S.w b.size 0 e)).size = grownCap S.w b.size 0 e := by
        simp only [bytesRow, Array.size_append, Array.size_map, Array.size_replicate]
        have : b.data.size = b.size := rfl
        omega
      have hlen : (ofBytes b.data.toList).length = b.size := by simp only [ofBytes, List.length_map]; exact (size_data b).symm
      obtain ⟨bk, h0, T, h1, h2, h3, h4⟩ := newSlice_at h hsp hc (bytesRow b (grownCap S.w b.size 0 e)) e ((bytesRow b (grownCap S.w b.size 0 e)).size, (bytesRow b (grownCap S.w b.size 0 e)).size + 1)
        (S.w.drew.alloc (.cells (bytesRow b (grownCap S.w b.size 0 e)) e ((bytesRow b (grownCap S.w b.size 0 e)).size, (bytesRow b (grownCap S.w b.size 0 e)).size + 1))) (grownCap S.w b.size 0 e) ⟨rfl, rfl, rfl, rfl⟩ (.inr (Nat.le_refl _)) (by omega) (fun p hp => by
          have hr : (bytesRow b (grownCap S.w b.size 0 e)).toList.getD p undef = (ofBytes b.data.toList).getD p undef := by
            simp only [bytesRow, Array.toList_append, Array.toList_map]
            rw [getD_append_lt _ _ _ (by rw [List.length_map]; rw [hlen, size_data] at hp; exact hp)]
            rfl
          rw [hr]
          exact (ofBytes_plain (S := S) b.data.toList).2 p hp) (by rw [← size_data]; exact hge) (by omega)
      rw [← size_data] at h3
      exact ⟨bk, h0, T, _, h1, by rw [h2]; exact hrun, h3, h4⟩
    · cases hc
  · rename_i hs hd; rw [hsq] at hs; cases hs
  · rename_i hs hd; rw [hdq] at hd; cases hd
  · rename_i hs hd; rw [hdq] at hd; cases hd
  · cases hc
/-- Bytes as bytes. -/
theorem convA_mark {P : Program} {base : Nat} {S : St} (h : SR base S) {src dst : TypeId} {x x' v : Value} {s' : ASt} (hx : VR S x x') (hc : convA P S.s src dst x = some (v, s')) (hq : isSliceD (P.underlying dst) = true) (hnt : textConv P src dst = false) :
    Does P base S (convert src dst x') v s' := by
  unfold convA at hc
  split at hc
  · rename_i d1 k k2 n hs hd; rw [hd] at hq; cases hq
  · rename_i d1 b hs hd; rw [hd] at hq; cases hq
  · rename_i e b hs hd; simp only [textConv, hs, hd] at hnt; cases hnt
  · rename_i e1 e2 i off len c hs hd
    split at hc
    · cases hc
    · rename_i m
      split at hc
      · rename_i b hb
        split at hc
        · rename_i hcond
          simp only [Bool.and_eq_true, Nat.ble_eq, Nat.beq_eq] at hcond
          obtain ⟨⟨⟨⟨hsd, hu⟩, ho⟩, hlow⟩, hle⟩ := hcond
          injection hc with hc; injection hc with e3 e4; subst e3; subst e4
          have hx0 := hx
          cases hx with
          | slice _ _ _ _ a cap h0 hz hr =>
          have hlive : Live b c := ⟨hlow, hle⟩
          obtain ⟨ho1, ⟨arr, E, fr, ho2, ho3⟩, ho4, ho5⟩ := h.own i b hb ho c hlive
          obtain ⟨⟨b', hb', _, hadr⟩, _⟩ := hr (by omega)
          rw [hb] at hb'; obtain rfl := Option.some.inj hb'
          obtain rfl := hadr hlow
          have hg := Good.freeze h hb ho hlive ho2
          refine ⟨_, _, rfl, ?_, hx0.mono hg.ext, hg⟩
          have hshape : S.w.shape? (S.e.loc i c).1 = some (E, arr.size) := by simp [World.shape?, ho2]
          subst hsd
          obtain rfl : e1 = e2 := by rw [hs] at hd; injection hd with hd; injection hd
          simp [convert, run_underlying hs, run_underlying (isU8_ok hu), markStringish, hshape]
        · cases hc
      · cases hc
  · rename_i e n c hs hd; rw [hd] at hq; cases hq
  · rename_i e i off len c hs hd; rw [hd] at hq; cases hq
  · cases hc


/-! Parts laid over noughts. -/
theorem foldl_set : ∀ (vs : List Value) (k off : Nat) (cs : Array Value) (p : Nat), off + k + vs.length ≤ cs.size →
    ((vs.zipIdx k).foldl (fun (cs : Array Value) (x : Value × Nat) => cs.setIfInBounds (off + x.2) x.1) cs).size = cs.size ∧
    ((vs.zipIdx k).foldl (fun (cs : Array Value) (x : Value × Nat) => cs.setIfInBounds (off + x.2) x.1) cs)[p]? = if off + k ≤ p ∧ p < off + k + vs.length then some (vs.getD (p - (off + k)) undef) else cs[p]? := by
  intro vs
  induction vs with
  | nil => intro k off cs p _; exact ⟨rfl, by rw [if_neg (by simp)]; rfl⟩
  | cons v r ih =>
    intro k off cs p h
    simp only [List.length_cons] at h
    simp only [List.zipIdx_cons, List.foldl_cons]
    obtain ⟨h1, h2⟩ := ih (k + 1) off (cs.setIfInBounds (off + k) v) p (by simp; omega)
    refine ⟨by rw [h1]; simp, ?_⟩
    rw [h2]
    by_cases hp : off + (k + 1) ≤ p ∧ p < off + (k + 1) + r.length
    · rw [if_pos hp, if_pos (by simp; omega), show p - (off + k) = (p - (off + (k + 1))) + 1 by omega, List.getD_cons_succ]
    · rw [if_neg hp]
      by_cases hpo : p = off + k
      · subst hpo
        rw [if_pos (by simp), Array.getElem?_setIfInBounds_self_of_lt (by omega), Nat.sub_self, List.getD_cons_zero]
      · rw [if_neg (by simp; omega), Array.getElem?_setIfInBounds_ne (by omega)]

def PR (S : St) : List (Nat × Value) → List (Nat × Value) → Prop
  | [], [] => True
  | (i, v) :: r, (j, u) :: r' => i = j ∧ VR S v u ∧ PR S r r'
  | _, _ => False

theorem fill_ok {S : St} (place place' : Nat → Option (Nat × Nat)) (hpl : ∀ i, place i = place' i) : ∀ (parts parts' : List (Nat × Value)) (cs : List Value) (cs' : Array Value) (l : List Value),
    PR S parts parts' → VRL S cs cs'.toList → fillA place cs parts = some l → ∃ l', Instr.fill place' cs' parts' = some l' ∧ VRL S l l'.toList := by
  intro parts
  induction parts with
  | nil =>
    intro parts' cs cs' l hp hc h
    cases parts' with
    | nil => simp only [fillA] at h; obtain rfl := Option.some.inj h; exact ⟨cs', rfl, hc⟩
    | cons _ _ => exact hp.elim
  | cons x r ih =>
    intro parts' cs cs' l hp hc h
    obtain ⟨i, v⟩ := x
    cases parts' with
    | nil => exact hp.elim
    | cons y r' =>
      obtain ⟨j, u⟩ := y
      obtain ⟨rfl, hv, hr⟩ := hp
      simp only [fillA] at h
      split at h
      · rename_i off size hpi
        split at h
        · rename_i hsz
          simp only [Bool.and_eq_true, Nat.beq_eq, Nat.ble_eq] at hsz
          obtain ⟨hsz', hfit⟩ := hsz
          split at h
          · rename_i m hm
            obtain ⟨h1, _, h3⟩ := setAt_spec _ _ _ _ hm
            have hcv := hv.cells
            have hul : u.cells.size = size := by have := hcv.1; simp at this hsz'; omega
            have hcl : cs'.size = cs.length := by have := hc.1; simp at this; omega
            have hcs : m.length = cs.length := h1
            have hf := fun p => foldl_set u.cells.toList 0 off cs' p (by simp; omega)
            have hz2 : u.cells.zipIdx.foldl (fun cs x => cs.setIfInBounds (off + x.2) x.1) cs' = (u.cells.toList.zipIdx 0).foldl (fun cs x => cs.setIfInBounds (off + x.2) x.1) cs' := by
              rw [show u.cells.zipIdx = (u.cells.toList.zipIdx 0).toArray by rw [← Array.toList_inj]; simp, List.foldl_toArray]
            generalize hF : (u.cells.toList.zipIdx 0).foldl (fun cs x => cs.setIfInBounds (off + x.2) x.1) cs' = F at hf hz2
            obtain ⟨l', hl1, hl2⟩ := ih r' m F l hr (by
              have hF1 := (hf 0).1
              have hF2 : F.toList.length = F.size := Array.length_toList
              refine ⟨by omega, fun p hp => ?_⟩
              rw [h3 p]
              have hFp : F.toList.getD p undef = if off + 0 ≤ p ∧ p < off + 0 + u.cells.toList.length then u.cells.toList.getD (p - (off + 0)) undef else cs'.toList.getD p undef := by
                rw [List.getD_eq_getElem?_getD, Array.getElem?_toList, (hf p).2]
                split
                · rfl
                · rw [List.getD_eq_getElem?_getD, Array.getElem?_toList]
              rw [hFp]
              by_cases hpp : off ≤ p ∧ p < off + v.cells.toList.length
              · rw [if_pos hpp, if_pos (by rw [Array.length_toList, hul]; rw [hsz'] at hpp; omega)]
                exact hcv.2 (p - off) (by omega)
              · rw [if_neg hpp, if_neg (by rw [Array.length_toList, hul]; rw [hsz'] at hpp; omega)]
                exact hc.2 p (by omega)) h
            refine ⟨l', ?_, hl2⟩
            simp only [Instr.fill]
            rw [← hpl i, hpi]
            simp only
            rw [if_neg (by simp; omega), hz2]
            exact hl1
          · cases h
        · cases h
      · cases h

theorem partsA_ok {S : St} {f : AFr} {a : Act} (hf : FR S f a) : ∀ {ps : List (Nat × Operand)} {l : List (Nat × Value)}, partsA f ps = some l → PR S l (ps.map fun x => (x.1, a.eval x.2)) := by
  intro ps
  induction ps with
  | nil => intro l h; simp only [partsA] at h; obtain rfl := Option.some.inj h; trivial
  | cons x ps ih =>
    intro l h
    obtain ⟨i, x⟩ := x
    simp only [partsA] at h
    split at h
    · rename_i v r hv hr; obtain rfl := Option.some.inj h; exact ⟨rfl, evalA_ok hf hv, ih hr⟩
    · cases h

theorem run_mapM {α β : Type} {P : Program} (w : World) (g : α → Sem β) (g' : α → β) : ∀ (l : List α), (∀ x ∈ l, (g x).run P w = .ok (g' x) w) → (l.mapM g).run P w = .ok (l.map g') w := by
  intro l
  induction l with
  | nil => intro _; simp
  | cons x l ih =>
    intro h
    simp [List.mapM_cons, h x (by simp), ih (fun y hy => h y (by simp [hy]))]

theorem buildA_ok {P : Program} {S : St} {t : TypeId} {parts parts' : List (Nat × Value)} {v : Value} (hp : PR S parts parts') (h : buildA P t parts = some v) : Reads P S (Instr.build t parts'.toArray) v := by
  unfold buildA at h
  split at h
  · rename_i fs z hu hz
    split at h
    · rename_i hc
      simp only [Bool.and_eq_true, List.all_eq_true] at hc
      split at h
      · rename_i l hl
        obtain rfl := Option.some.inj h
        let g' : Field → Nat × Nat := fun f => (f.offset, (sizeB P f.type).getD 0)
        have hplaces : (fs.mapM (fun f => Prod.mk f.offset <$> sizeOf f.type) : Sem (Array (Nat × Nat))).run P S.w = .ok (fs.map g') S.w := by
          rw [Array.mapM_eq_mapM_toList]
          have := run_mapM (P := P) S.w (fun f : Field => (Prod.mk f.offset <$> sizeOf f.type : Sem (Nat × Nat))) g' fs.toList (fun f hf => by
            obtain ⟨n, hn⟩ := Option.isSome_iff_exists.1 (hc.2 f hf)
            simp [run_sizeOf hn, g', hn])
          simp only [Sem.run_map, this, Result.andThen_ok]
          congr 1
          rw [← Array.toList_inj]; simp
        obtain ⟨l', h1, h2⟩ := fill_ok (placeOf P fs) ((fs.map g')[·]?) (fun i => by
          simp only [placeOf, Array.getElem?_map]
          cases hfi : fs[i]? with
          | none => rfl
          | some f =>
            have hmem : f ∈ fs.toList := by
              have := Array.mem_of_getElem? hfi
              simpa using this
            obtain ⟨n, hn⟩ := Option.isSome_iff_exists.1 (hc.2 f hmem)
            simp [hn, g']) parts parts' _ z.cells l hp (plainV_ok hc.1).cells hl
        refine ⟨.agg l', ?_, .agg _ _ h2.1 h2.2⟩
        simp only [Array.getElem?_map] at h1
        simp [Instr.build, run_zeroValue hz, run_underlying hu, hplaces, h1]
      · cases h
    · cases h
  · rename_i n e z hu hz
    split at h
    · rename_i sz hs
      split at h
      · rename_i hc
        split at h
        · rename_i l hl
          obtain rfl := Option.some.inj h
          obtain ⟨l', h1, h2⟩ := fill_ok (fun i => some (i * sz, sz)) (fun i => some (i * sz, sz)) (fun _ => rfl) parts parts' _ z.cells l hp (plainV_ok hc).cells hl
          refine ⟨.agg l', ?_, .agg _ _ h2.1 h2.2⟩
          simp [Instr.build, run_zeroValue hz, run_underlying hu, run_sizeOf hs, h1]
        · cases h
      · cases h
    · cases h
  · cases h

theorem repeatL_length (z : List Value) : ∀ n, (repeatL z n).length = n * z.length
  | 0 => by simp [repeatL]
  | n + 1 => by rw [repeatL, List.length_append, repeatL_length z n, Nat.succ_mul]; omega
theorem repeatL_getD (z : List Value) (hz : 0 < z.length) : ∀ n p, p < n * z.length → (repeatL z n).getD p undef = z.getD (p % z.length) undef
  | 0, p, h => by simp at h
  | n + 1, p, h => by
    rw [repeatL]
    by_cases hp : p < z.length
    · rw [getD_append_lt _ _ _ hp, Nat.mod_eq_of_lt hp]
    · rw [getD_append_ge _ _ _ (by omega), repeatL_getD z hz n (p - z.length) (by rw [Nat.add_mul, Nat.one_mul] at h; omega), ← Nat.mod_eq_sub_mod (by omega)]
theorem made_getD (z : Array Value) (n p : Nat) (h : p < n) (hz : 0 < z.size) : ((Array.range n).map (z[· % z.size]!)).toList.getD p undef = z.toList.getD (p % z.size) undef := by
  have h2 : p % z.size < z.size := Nat.mod_lt _ hz
  simp [List.getD_eq_getElem?_getD, h, h2]

/-- Noughts, as many as are wanted. -/
theorem zeros_ok {S : St} {z : Value} (hp : plainV z = true) {n : Nat} (hn : z.cells.toList.length = n) (len m : Nat) (hle : len * n ≤ m) : ∀ p, p < len * n → VR S ((repeatL z.cells.toList len).getD p undef) (((Array.range m).map (z.cells[· % z.cells.size]!)).toList.getD p undef) := by
  intro p h
  have hpos : 0 < n := by
    rcases Nat.eq_zero_or_pos n with h0 | h0
    · subst h0; simp at h
    · exact h0
  have hsz : z.cells.size = n := by simpa using hn
  rw [repeatL_getD _ (by omega) len p (by rw [hn]; exact h), made_getD _ _ _ (by omega) (by omega), hn, hsz]
  exact ((plainV_ok hp).cells (S := S)).2 _ (by rw [hn]; exact Nat.mod_lt _ hpos)

theorem buildSliceA_at {P : Program} {base : Nat} {S : St} (h : SR base S) {s0 : ASt} {next : Nat} (hsp : Spot S s0.next next) {t : TypeId} {len : Nat} {parts parts' : List (Nat × Value)} {v : Value} {s' : ASt} (hp : PR S parts parts') (hb : buildSliceA P s0 t len parts = some (v, s')) :
    DoesAt P base S (Instr.buildSlice t len parts'.toArray) v s0 s' next := by
  unfold buildSliceA at hb
  split at hb
  · rename_i e hu
    split at hb
    · rename_i n z hn hz
      split at hb
      · rename_i hc
        simp only [Bool.and_eq_true, Nat.ble_eq, Nat.beq_eq] at hc
        obtain ⟨⟨hle, hpl⟩, hzn⟩ := hc
        split at hb
        · rename_i l hl
          have hrl : (repeatL z.cells.toList len).length = len * n := by rw [repeatL_length, hzn]
          obtain ⟨l', h1, h2⟩ := fill_ok (fun i => some (i * n, n)) (fun i => some (i * n, n)) (fun _ => rfl) parts parts' _ ((Array.range (len * n)).map (z.cells[· % z.cells.size]!)) l hp
            ⟨by rw [hrl]; simp, fun p hp => zeros_ok hpl hzn len (len * n) (Nat.le_refl _) p (by rw [hrl] at hp; exact hp)⟩ hl
          have hll : l.length = l'.size := by have := h2.1; simpa using this
          have hl'n : l'.size = len * n := by
            have : ∀ (ps : List (Nat × Value)) (cs : List Value) (l : List Value), fillA (fun i => some (i * n, n)) cs ps = some l → l.length = cs.length := by
              intro ps
              induction ps with
              | nil => intro cs l h; simp only [fillA] at h; obtain rfl := Option.some.inj h; rfl
              | cons x r ih =>
                intro cs l h
                obtain ⟨i, v⟩ := x
                simp only [fillA] at h
                split at h
                · split at h
                  · rename_i m hm
                    rw [ih m l h]; exact (setAt_spec _ _ _ _ hm).1
                  · cases h
                · cases h
            rw [← hll, this _ _ _ hl, hrl]
          obtain ⟨b, k0, T, k1, k2, k3, k4⟩ := newSlice_at h hsp hb l' e (0, 0) (S.w.alloc (.cells l' e)) len ⟨rfl, rfl, rfl, rfl⟩ (.inl rfl) (by omega) h2.2 (Nat.le_refl _) (by omega)
          refine ⟨b, k0, T, _, k1, ?_, k3, k4⟩
          rw [k2]
          have hnot : ¬ (16777216 < len * n) := by omega
          by_cases h0 : len * n = 0
          · have hr : Array.range (len * n) = #[] := by rw [h0]; rfl
            rw [hr] at h1
            simp only [Array.map_empty] at h1
            simp [Instr.buildSlice, run_underlying hu, run_sizeOf hn, h0]
            rw [show Array.range 0 = #[] from rfl]
            simp [h1, newRow]
          · have h2' : ¬ len * n > 2 ^ 24 := by omega
            simp only [Instr.buildSlice, Sem.run_bind, run_underlying hu, Result.andThen_ok, run_sizeOf hn, if_neg h2', Sem.run_pure, if_neg h0, run_zeroValue hz]
            rw [h1]
            simp [newRow]
        · cases hb
      · cases hb
    · cases hb
  · cases hb

theorem makeSliceA_at {P : Program} {base : Nat} {S : St} (h : SR base S) {s0 : ASt} {next : Nat} (hsp : Spot S s0.next next) {t : TypeId} {x y x' y' v : Value} {s' : ASt} (hx : VR S x x') (hy : VR S y y') (hb : makeSliceA P s0 t x y = some (v, s')) :
    DoesAt P base S (Instr.makeSlice t x' y') v s0 s' next := by
  unfold makeSliceA at hb
  split at hb
  · rename_i e k l k2 c hu
    cases hx; cases hy
    split at hb
    · rename_i n z by8 hn hz hby
      split at hb
      · rename_i hc
        simp only [Bool.and_eq_true, Nat.ble_eq, Nat.beq_eq] at hc
        obtain ⟨⟨⟨⟨hlc, hc1⟩, hc2⟩, hpl⟩, hzn⟩ := hc
        obtain ⟨i, hi, hiz⟩ := info_of_zero hz
        have his : i.size = n := by obtain ⟨i2, hi2, h3⟩ := info_of_size hn; rw [hi] at hi2; obtain rfl := Option.some.inj hi2; exact h3
        have hib : i.bytes = by8 := by obtain ⟨i2, hi2, h3⟩ := info_of_bytes hby; rw [hi] at hi2; obtain rfl := Option.some.inj hi2; exact h3
        have hrun := run_make (P := P) S.w t e i z hu hi hiz k k2 (Int.ofNat l) (Int.ofNat c) (Int.natCast_nonneg _) (Int.ofNat_le.2 hlc) (by rw [hib]; exact (show ((by8 * c : Nat) : Int) ≤ ((281474976710656 : Nat) : Int) from Int.ofNat_le.2 (by omega))) (show ((c : Nat) : Int) ≤ ((9223372036854775807 : Nat) : Int) from Int.ofNat_le.2 (by omega))
        have hrl : (repeatL z.cells.toList l).length = l * n := by rw [repeatL_length, hzn]
        have hln : l * n ≤ c * n := Nat.mul_le_mul_right _ hlc
        obtain ⟨b, k0, T, k1, k2', k3, k4⟩ := newSlice_at h hsp hb (madeCells z.cells (c * n)) e (0, 0) (S.w.alloc (.cells (madeCells z.cells (c * n)) e)) c ⟨rfl, rfl, rfl, rfl⟩ (.inl rfl) (by rw [hrl, size_madeCells]; exact hln)
          (fun p hp => zeros_ok hpl hzn l (c * n) hln p (by rw [hrl] at hp; exact hp)) hlc (by rw [size_madeCells]; exact Nat.le_refl _)
        refine ⟨b, k0, T, _, k1, ?_, k3, k4⟩
        rw [k2', hrun, his]
        rfl
      · cases hb
    · cases hb
  · cases hb

end Go.Cl
