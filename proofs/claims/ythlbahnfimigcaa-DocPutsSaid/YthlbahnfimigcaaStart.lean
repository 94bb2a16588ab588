/-
 The clean machine, part 24: where a law starts: its arguments, read, stand beside nothing. What is asked of a law behind its call.
-/
import Derived.Test.YthlbahnfimigcaaMono
import Derived.Test.YthlbahnfimigcaaMcB
import Derived.ProofKit
import Derived.OpenShut
import Derived.Carry
import Derived.ChangeSlices
import Derived.WideShapes
namespace Go.Cl
open Go.RowKit Go.ChangeShapes Go.WideShapes
structure Begun (W : World) (S : St) : Prop where
 sr : SR W.heap.size S
 w : S.w = W
 own : ∀ i b, S.s.blk? i = some b -> b.own = false
 map : ∀ i, S.s.map? i = none
theorem Begun.start (W : World) : Begun W (St.start W) :=
 ⟨SR.start W, rfl, fun i b h => by simp [St.start, ASt.empty, ASt.blk?, Tr.get] at h, fun i => by simp [St.start, ASt.empty, ASt.map?, Tr.get]⟩
def St.pushOld (S : St) (b : Blk) (a : Nat × Nat) : St := ⟨S.s.new (.blk b), ⟨fun j c => if j = S.s.next then a else S.e.loc j c, S.e.mp⟩, S.w⟩
theorem Begun.push {W : World} {S : St} (h : Begun W S) (b : Blk) (a : Nat × Nat) (hown : b.own = false) (hlow : 1 ≤ b.low) (hlive : ∀ c, Live b c -> c = b.cells.length + 1)
  (hblk : ∀ c, Live b c -> a.1 < W.heap.size) (hcell : ∀ c, Live b c -> ∀ p, p < b.cells.length -> ∃ v, W.cell? ⟨a.1, a.2 + p, none⟩ = some v ∧ VR S (b.cells.getD p undef) v) :
  Begun W (S.pushOld b a) ∧ Ext S (S.pushOld b a) ∧ Stay S.s.next S.s (S.pushOld b a).s ∧ (S.pushOld b a).s.next = S.s.next + 1 := by
 have hw := h.w
 have hnew : (S.pushOld b a).s.blk? S.s.next = some b := blk_new S.s b
 have hst : Stay S.s.next S.s (S.pushOld b a).s := Stay.new S.s _
 have hold : ∀ j b', (S.pushOld b a).s.blk? j = some b' -> (j = S.s.next ∧ b' = b) ∨ (j < S.s.next ∧ S.s.blk? j = some b') := by
  intro j b' hj
  by_cases hjn : j = S.s.next
  ·subst hjn; rw [hnew] at hj; exact .inl ⟨rfl, (Option.some.inj hj).symm⟩
  ·have e : (S.pushOld b a).s.blk? j = S.s.blk? j := by
    simp only [St.pushOld, ASt.new, ASt.blk?, Tr.get_set_ne _ _ _ _ _ (Ne.symm hjn)]
   rw [e] at hj
   exact .inr ⟨h.sr.lt hj, hj⟩
 have hext : Ext S (S.pushOld b a) := by
  refine ⟨fun i b' hb => ?_, fun r es he => (by rw [h.map r] at he; cases he), fun k arr E fr hk => ⟨arr, fr, hk, rfl⟩⟩
  have hlt := h.sr.lt hb
  refine ⟨b', (hst.blk hlt).trans hb, Nat.le_refl _, Nat.le_refl _, rfl, fun c _ _ => ?_⟩
  simp only [St.pushOld, if_neg (Nat.ne_of_lt hlt)]
 refine ⟨⟨⟨by omega, ?_, ?_, ?_, ?_, ?_, ?_, ?_, ?_⟩, hw, ?_, ?_⟩, hext, hst, rfl⟩
 ·intro i o hi
  show i < S.s.next + 1
  by_cases hin : i = S.s.next
  ·omega
  ·have e : (S.pushOld b a).s.heap.get i = S.s.heap.get i := by simp only [St.pushOld, ASt.new, Tr.get_set_ne _ _ _ _ _ (Ne.symm hin)]
   rw [e] at hi
   have := h.sr.bound i o hi; omega
 ·intro i b' hi
  rcases hold i b' hi with ⟨_, rfl⟩ | ⟨_, hi⟩
  ·exact hlow
  ·exact h.sr.low i b' hi
 ·intro i b' hi c hc p hp
  rcases hold i b' hi with ⟨rfl, rfl⟩ | ⟨hlt, hi⟩
  ·have := hlive c hc
   obtain ⟨v, h1, h2⟩ := hcell c hc p (by omega)
   refine ⟨v, ?_, h2.mono hext⟩
   simp only [St.pushOld, if_true, hw]; exact h1
  ·obtain ⟨v, h1, h2⟩ := h.sr.cell i b' hi c hc p hp
   refine ⟨v, ?_, h2.mono hext⟩
   simp only [St.pushOld, if_neg (Nat.ne_of_lt hlt)]; exact h1
 ·intro i b' hi ho
  rcases hold i b' hi with ⟨_, rfl⟩ | ⟨_, hi⟩
  ·rw [hown] at ho; cases ho
  ·rw [h.own i b' hi] at ho; cases ho
 ·intro r es he
  have : (S.pushOld b a).s.map? r = none := by
   by_cases hr : r = S.s.next
   ·subst hr; simp only [St.pushOld, ASt.new, ASt.map?, Tr.get_set_self _ _ _ _ (deep (by omega))]
   ·have := h.map r
    simp only [ASt.map?] at this
    simp only [St.pushOld, ASt.new, ASt.map?, Tr.get_set_ne _ _ _ _ _ (Ne.symm hr), this]
  rw [this] at he; cases he
 ·intro r r' es es' he
  have : (S.pushOld b a).s.map? r = none := by
   by_cases hr : r = S.s.next
   ·subst hr; simp only [St.pushOld, ASt.new, ASt.map?, Tr.get_set_self _ _ _ _ (deep (by omega))]
   ·have := h.map r
    simp only [ASt.map?] at this
    simp only [St.pushOld, ASt.new, ASt.map?, Tr.get_set_ne _ _ _ _ _ (Ne.symm hr), this]
  rw [this] at he; cases he
 ·show W.heap.size ≤ S.w.heap.size
  rw [hw]; exact Nat.le_refl _
 ·intro i b' hi c hc
  show ((S.pushOld b a).e.loc i c).1 < S.w.heap.size
  rw [hw]
  rcases hold i b' hi with ⟨rfl, rfl⟩ | ⟨hlt, hi⟩
  ·simp only [St.pushOld, if_true]; exact hblk c hc
  ·simp only [St.pushOld, if_neg (Nat.ne_of_lt hlt)]
   have := h.sr.inb i b' hi c hc
   rw [hw] at this; exact this
 ·intro i b' hi
  rcases hold i b' hi with ⟨_, rfl⟩ | ⟨_, hi⟩
  ·exact hown
  ·exact h.own i b' hi
 ·intro r
  by_cases hr : r = S.s.next
  ·subst hr; simp only [St.pushOld, ASt.new, ASt.map?, Tr.get_set_self _ _ _ _ (deep (by omega))]
  ·have := h.map r
   simp only [ASt.map?] at this
   simp only [St.pushOld, ASt.new, ASt.map?, Tr.get_set_ne _ _ _ _ _ (Ne.symm hr), this]
structure Joins (W : World) (S S' : St) (v' v : Value) : Prop where
 begun : Begun W S'
 ext : Ext S S'
 stay : Stay S.s.next S.s S'.s
 next : S'.s.next = S.s.next + 1
 vr : VR S' v' v
variable {H : Type} {enc : TypeId × Value -> H} {P : Program}
theorem Begun.ints {W : World} {S : St} (h : Begun W S) {t e : TypeId} {k : IntKind} {r : Reach} {b0 : Nat} {v : Value} {d : DataW H} {ps : List MemPlace} (ht : P.underlying t = some (.slice e)) (he : P.underlying e = some (.int k)) (hc : P.cellsOf e = 1)
  (hval : Value.okWide P W r b0 t v) (hd : DataW.Trod enc P W 0 (fun _ => true) true t v d ps) :
  ∃ (S' : St) (v' : Value) (zs : List Int), Joins W S S' v' v ∧ Sees S'.s 1 v' zs.length (zs.map (.int k)) ∧ (∀ n ∈ zs, (Lit.int k n).wf = true) := by
 obtain ⟨a, len, cap, rfl⟩ := okWide_slice ht hval
 obtain ⟨fuel, hf⟩ := hd
 have dead : ∀ v', VR S v' (.slice a len cap) -> ∃ S', Joins W S S' v' (.slice a len cap) := fun v' hv => by
  obtain ⟨h1, h2, h3, h4⟩ := h.push ⟨[], 2, false, 1⟩ (0, 0) rfl (by simp) (fun c hc => by simp only [Live, List.length_nil] at hc; omega) (fun c hc => by simp only [Live, List.length_nil] at hc; omega) (fun c hc => by simp only [Live, List.length_nil] at hc; omega)
  exact ⟨_, h1, h2, h3, h4, hv.mono h2⟩
 rcases open_ints ht he hc hf with ⟨hcs, _⟩ | ⟨a, len', cap', zs, hcs, hb, hlc, hcm, hzl, hx, hcell, hwf⟩
 ·have hcs' : [Value.slice a len cap] = [Value.slice none 0 0] := hcs
  injection hcs' with hcs' _
  injection hcs' with e1 e2 e3; subst e1; subst e2; subst e3
  obtain ⟨S', hj⟩ := dead (.slice none 0 0) .sliceNil
  exact ⟨S', _, [], hj, .nil, fun n hn => by cases hn⟩
 ·rename_i a0
  have hcs' : [Value.slice a0 len cap] = [Value.slice (some a) len' cap'] := hcs
  injection hcs' with hcs' _
  injection hcs' with e1 e2 e3; subst e1; subst e2; subst e3
  simp only [if_true] at hzl
  by_cases hcap : cap = 0
  ·subst hcap
   obtain rfl : len = 0 := by omega
   obtain ⟨S', hj⟩ := dead (.slice (some ⟨0, 0, none⟩) 0 0) (.slice 0 0 0 0 a 0 (Nat.le_refl _) (fun _ => rfl) (fun hx => by omega))
   exact ⟨S', _, [], hj, .bare _ _, fun n hn => by cases hn⟩
  ·have hcells : ∀ i, i < cap -> W.cell? ⟨a.block, a.off + i, none⟩ = some (.int k (zs.getD i 0)) := by
    intro i hi
    have hi0 := hcell i (by omega)
    by_cases h0 : i = 0
    ·subst h0
     simp only [Addr.add, if_true] at hi0
     unfold World.cell? at hi0 ⊢
     split at hi0
     ·rename_i c _ _ hh
      simp only [hh]
      split at hi0
      ·cases hi0
      ·simpa using hi0
     ·cases hi0
    ·simpa only [Addr.add, if_neg h0] using hi0
   have hblk : ∃ arr E fr, W.heap[a.block]? = some (.cells arr E fr) ∧ a.off + cap ≤ arr.size := by
    have hl := hcells (cap - 1) (by omega)
    unfold World.cell? at hl
    split at hl
    ·rename_i c E fr hh
     refine ⟨c, E, fr, hh, ?_⟩
     simp only [Option.isSome_none, Bool.false_eq_true, if_false] at hl
     have hl' : a.off + (cap - 1) < c.size := by
      rcases Nat.lt_or_ge (a.off + (cap - 1)) c.size with q | q
      ·exact q
      ·rw [Array.getElem?_eq_none q] at hl; cases hl
     omega
    ·cases hl
   obtain ⟨arr, E, fr, hh, hsz⟩ := hblk
   have hlt : a.block < W.heap.size := by
    rcases Nat.lt_or_ge a.block W.heap.size with q | q
    ·exact q
    ·rw [Array.getElem?_eq_none q] at hh; cases hh
   have hlen : (zs.take len).length = len := by rw [List.length_take]; omega
   have hlen2 : ((zs.take len).map (Value.int k)).length = len := by rw [List.length_map, hlen]
   obtain ⟨h1, h2, h3, h4⟩ := h.push ⟨(zs.take len).map (.int k), len + 1, false, 1⟩ (a.block, a.off) rfl (by simp) (fun c hc => by simp only [Live, hlen2] at hc ⊢; omega) (fun c _ => hlt) (fun c _ p hp => by
    simp only [hlen2] at hp
    refine ⟨_, hcells p (by omega), ?_⟩
    have : ((zs.take len).map (Value.int k)).getD p undef = .int k (zs.getD p 0) := by
     simp [List.getD, List.getElem?_map, List.getElem?_take, hp, List.getElem?_eq_getElem (show p < zs.length by omega)]
    rw [this]; exact .int _ _)
   have hnb : (S.pushOld ⟨(zs.take len).map (.int k), len + 1, false, 1⟩ (a.block, a.off)).s.blk? S.s.next = some ⟨(zs.take len).map (.int k), len + 1, false, 1⟩ := blk_new _ _
   refine ⟨_, .slice (some ⟨S.s.next, 0, none⟩) len (len + 1), zs.take len, ⟨h1, h2, h3, h4, ?_⟩, ?_, fun n hn => hwf n (List.mem_of_mem_take hn)⟩
   ·refine .slice _ _ _ _ a cap hlc (fun q => by omega) (fun _ => ⟨⟨_, hnb, by simp only [hlen2]; omega, fun _ => ?_⟩, fun b hb hl => ?_⟩)
    ·have hsp : a.spot = none := by
      have := hcell 0 (by omega)
      simp only [Addr.add, if_true] at this
      unfold World.cell? at this
      rw [hh] at this
      simp only at this
      split at this
      ·cases this
      ·rename_i q; simpa using q
     cases a; simp only [St.pushOld, if_true] at *; simp [hsp]
    ·rw [hnb] at hb; obtain rfl := Option.some.inj hb
     exact ⟨arr, E, fr, by show S.w.heap[a.block]? = _; rw [h.w]; exact hh, by simpa using hsz⟩
   ·rw [hlen]
    refine .of S.s.next 0 len _ _ _ (by rw [h4]; omega) hnb rfl (by simp) (by simp only [hlen2]; omega) (by simp only [hlen2]; omega) (by omega) ?_
    rw [List.drop_zero, Nat.mul_one]; exact List.take_of_length_le (by rw [hlen2]; exact Nat.le_refl _)
theorem bytes_of {zs : List Int} (h : ∀ n ∈ zs, (Lit.int .u8 n).wf = true) : ∃ bs : List UInt8, bs.length = zs.length ∧ zs.map (.int .u8) = ofBytes bs := by
 refine ⟨zs.map fun n => UInt8.ofNat n.toNat, by simp, ?_⟩
 simp only [ofBytes, List.map_map]
 refine List.map_congr_left fun n hn => ?_
 have hw := h n hn
 simp only [Function.comp, Value.int.injEq, true_and]
 have : 0 ≤ n ∧ n < 256 := by
  simp [Lit.wf, IntKind.min, IntKind.max, IntKind.bits, IntKind.signed] at hw
  omega
 rw [UInt8.toNat_ofNat']
 omega
theorem Begun.bytes {W : World} {S : St} (h : Begun W S) {t e : TypeId} {r : Reach} {b0 : Nat} {v : Value} {d : DataW H} {ps : List MemPlace} (ht : P.underlying t = some (.slice e)) (he : P.underlying e = some (.int .u8)) (hc : P.cellsOf e = 1)
  (hval : Value.okWide P W r b0 t v) (hd : DataW.Trod enc P W 0 (fun _ => true) true t v d ps) :
  ∃ (S' : St) (v' : Value) (bs : List UInt8), Joins W S S' v' v ∧ Sees S'.s 1 v' bs.length (ofBytes bs) := by
 obtain ⟨S', v', zs, hj, hs, hw⟩ := h.ints ht he hc hval hd
 obtain ⟨bs, h1, h2⟩ := bytes_of hw
 exact ⟨S', v', bs, hj, by rw [h1, ← h2]; exact hs⟩
theorem trodAll_below (hl : laidOutB P = true) {W W' : World} (hb : Below W.heap.size W W') : ∀ {ts : List TypeId} {vs : List Value} {ds : List (DataW H)} {ps : List MemPlace}, (∀ t ∈ ts, P.readableRec t = true ∧ t < P.types.size) ->
  DataW.TrodAll enc P W 0 (fun _ => true) true ts vs ds ps -> (∀ x ∈ ps, x.block < W.heap.size) -> DataW.TrodAll enc P W' 0 (fun b => decide (b < W.heap.size)) true ts vs ds ps := by
 intro ts
 induction ts with
 | nil =>
  intro vs ds ps _ h _
  cases vs <;> cases ds <;> simp only [DataW.TrodAll] at h ⊢
  exact h
 | cons t ts ih =>
  intro vs ds ps hr h hlt
  obtain ⟨v, vs', d, ds', p, q, rfl, rfl, rfl, h1, h2⟩ := trodAll_cons h
  exact ⟨p, q, Below.trod hl (hr t (List.mem_cons_self ..)).1 (hr t (List.mem_cons_self ..)).2 h1 hb (fun x hx => hlt x (List.mem_append_left _ hx)), ih (fun t ht => hr t (List.mem_cons_of_mem _ ht)) h2 (fun x hx => hlt x (List.mem_append_right _ hx)), rfl⟩
theorem law_post {fn : Func} {s : ChangeSpec} {W W' : World} {args : Array Value} {ds gs : List (DataW H)} {before : List MemPlace} {tb : TypeId} (hl : laidOutB P = true) (hread : ∀ t ∈ fn.params.toList, P.readableRec t = true ∧ t < P.types.size)
  (hres : fn.resultTypes = #[tb]) (hb : P.underlying tb = some .bool) (hvars : s.vars = []) (hfn : ∀ l : List (DataW H), l.length = ds.length -> s.fn H l = { results := [.lit (.bool true)], args := l }) (hW : DataW.Whole enc P fn.params.toList s.vars false W args.toList ds gs before) (hbelow : Below W.heap.size W W') :
  ∃ v, Ending.returned (.bool true) = .returned v ∧ s.post enc P fn false true false false W args v W' := by
 have hW' := hW
 obtain ⟨p, q, hA, hV, rfl, hfz, hnd⟩ := hW
 rw [hvars] at hV
 obtain ⟨rfl, rfl⟩ := trodVars_none hV
 have hspec : s.fn H (ds ++ []) = { results := [.lit (.bool true)], args := ds } := by rw [List.append_nil]; exact hfn ds rfl
 refine ⟨_, rfl, ds, [], p ++ [], [], p, [], hW', ?_, ?_, ?_, hbelow.frame _, fun h => by cases h⟩
 ·rw [hspec, hres]
  exact trodAll_cons_mk (shut_bool hb _) trodAll_mk0
 ·rw [hspec]
  exact trodAll_below hl hbelow hread hA hA.lt
 ·rw [hspec, hvars]; rfl
end Go.Cl