/-
  The clean machine, part 17: a statement whose order is open, as a whole.
-/
import Derived.Test.YtbakljlaladpoaaCl16
namespace Go.Cl
open Go.RowKit

def cnt (listed : Array Bool) : Nat → Nat
  | 0 => 0
  | n + 1 => cnt listed n + (if listed.getD n true = true then 0 else 1)
theorem cnt_zero {listed : Array Bool} : ∀ {n : Nat}, cnt listed n = 0 → ∀ j, j < n → listed.getD j true = true
  | 0, _, j, hj => by omega
  | n + 1, h, j, hj => by
    simp only [cnt] at h
    by_cases hjn : j = n
    · subst hjn
      by_cases hl : listed.getD j true = true
      · exact hl
      · rw [if_neg hl] at h; omega
    · exact cnt_zero (n := n) (by omega) j (by omega)
theorem cnt_set_ge {listed : Array Bool} {i : Nat} : ∀ {n : Nat}, n ≤ i → cnt (listed.setIfInBounds i true) n = cnt listed n
  | 0, _ => rfl
  | n + 1, h => by
    simp only [cnt, cnt_set_ge (n := n) (by omega : n ≤ i), getD_set_ne true (show i ≠ n by omega)]
theorem cnt_set {listed : Array Bool} {i : Nat} (hi : i < listed.size) (hf : listed.getD i true = false) : ∀ {n : Nat}, i < n → cnt (listed.setIfInBounds i true) n + 1 = cnt listed n
  | 0, h => by omega
  | n + 1, h => by
    simp only [cnt]
    by_cases hin : i = n
    · subst hin
      rw [cnt_set_ge (Nat.le_refl _), hf]
      have : (listed.setIfInBounds i true).getD i true = true := by simp [hi]
      rw [this]; simp
    · have := cnt_set hi hf (n := n) (by omega)
      rw [getD_set_ne true hin]
      omega

theorem Rep.unique {es : List Ev} {T s s' : ASt} {q : Nat → Prop} (h : Rep es T q s) (h' : Rep es T q s') : Same s s' := by
  refine ⟨by rw [h.next, h'.next], (fun _ _ h => by cases h), fun i => ?_⟩
  show s'.heap.get i = s.heap.get i
  cases hT : T.heap.get i with
  | some o => rw [h.old i o hT, h'.old i o hT]
  | none =>
    by_cases hx : ∃ j b, MadeAt es j i b ∧ q j
    · obtain ⟨j, b, hm, hq⟩ := hx
      rw [h.new i j b hT hm hq, h'.new i j b hT hm hq]
    · rw [h.gone i hT (fun j b hm hq => hx ⟨j, b, hm, hq⟩), h'.gone i hT (fun j b hm hq => hx ⟨j, b, hm, hq⟩)]

def Lof (listed : Array Bool) (j : Nat) : Prop := listed.getD j false = true

section
variable {P : Program} {call : Call} {ops : List Oper} {f0 : AFr} {s0 : ASt} {es : List Ev} {F : Nat → AFr} {G : Nat → ASt}

theorem inv_end (h : Trial P call ops f0 s0 es F G) (hc : CallFr call) (hw0 : WF s0) {base : Nat} {S0 : St} {a0 : Act} {L : Nat → Prop} {a : Act} {w : World} (hinv : Inv P base S0 a0 ops es F G L a w) (hall : ∀ j, j < ops.length → L j) :
    ∃ S, S.w = w ∧ Good base S0 S ∧ FR S (F ops.length) a ∧ a.defers = a0.defers ∧ Same (fill (fun _ => true) (G ops.length) (madeOf es 0)) S.s := by
  obtain ⟨S, g, p, rfl, hg, hf, had, hgn, hp, heff, hrep, hfree, hfr⟩ := hinv
  have hlt : ∀ x (ox : Oper), ops[x]? = some ox → x < ops.length := fun x ox hx => (List.getElem?_eq_some_iff.1 hx).1
  have hG : G p = G ops.length := h.Geq hp (Nat.le_refl _) (fun x ox hx hex => by rw [heff x ox hx hex]; exact ⟨fun _ => hlt x ox hx, fun hl => hall x hl⟩)
  have hk := h.keep hc hw0 ops.length (Nat.le_refl _)
  have hG0n : (G 0).next = s0.next + allocs P ops := by rw [h.G0]
  have hids : ∀ x ∈ madeOf es 0, 0 < 16000001 := fun x hx => by
    obtain ⟨j, _, hm⟩ := madeOf_mem hx
    have := (h.bound hm).2
    have := hk.next
    have := hk.wf.room
    omega
  have hr1 : Rep es (G ops.length) (fun _ => true = true) (fill (fun _ => true) (G ops.length) (madeOf es 0)) := fill_rep hids (fun j k b hm _ => by have := mem_madeOf (n := 0) hm; simpa using this)
    (fun x hx => by obtain ⟨j, hj, hm⟩ := madeOf_mem hx; rw [show x.1 = j by omega]; exact hm) h.uniq
  rw [hG] at hrep
  have hr2 := hrep.congr (q' := fun _ => true = true) (fun j k b hm => ⟨fun _ => by obtain ⟨o, k1, _⟩ := h.made hm; exact hall j (hlt j o k1), fun _ => rfl⟩)
  refine ⟨S, rfl, hg, ?_, had, hr1.unique hr2⟩
  have hn : g.n = (F ops.length).n := by rw [hgn, h.F0, h.Fn _ (Nat.le_refl _)]
  refine ⟨by rw [← hn]; exact hf.n, by rw [← hn]; exact hf.small, fun t ht => ?_⟩
  rw [← hfr ops.length (Nat.le_refl _) t (fun x ox hx _ => ⟨fun hl => hall x hl, fun _ => hlt x ox hx⟩)]
  exact hf.get t (by rw [hn]; exact ht)

theorem any_ok (h : Trial P call ops f0 s0 es F G) (hreg : regOk P ops = true) (hc : CallFr call) {Pre : Nat → World → Prop} (hok : CallOk P Pre call) (hw0 : WF s0) (hst : Stays Pre) {base : Nat} {S0 : St} (hpre : Pre base S0.w) {a0 : Act} {Q : Exit → Act → World → Prop}
    (hQ : ∀ T a', Same (fill (fun _ => true) (G ops.length) (madeOf es 0)) T.s → Good base S0 T → FR T (F ops.length) a' → a'.defers = a0.defers → Q .normal a' T.w) :
    ∀ (fuel : Nat) (listed : Array Bool) (a : Act) (w : World), listed.size = ops.length → cnt listed ops.length ≤ fuel → Closed ops (Lof listed) → Inv P base S0 a0 ops es F G (Lof listed) a w → wpAny P .any ops.toArray Q fuel listed a w := by
  have ending : ∀ (listed : Array Bool) (a : Act) (w : World), Inv P base S0 a0 ops es F G (Lof listed) a w → (∀ j, j < ops.length → Lof listed j) → Q .normal a w := by
    intro listed a w hinv hall
    obtain ⟨S, rfl, h1, h2, h3, h4⟩ := inv_end h hc hw0 hinv hall
    exact hQ S a h4 h1 h2 h3
  have hsw : ∀ (listed : Array Bool) j, listed.size = ops.length → j < ops.length → (listed.getD j true = true ↔ Lof listed j) := by
    intro listed j hsz hj
    have : j < listed.size := by omega
    simp [Lof, this]
  have nil_all : ∀ (listed : Array Bool), listed.size = ops.length → Region.ready .any ops.toArray listed = [] → ∀ j, j < ops.length → Lof listed j := by
    intro listed hsz hnil j
    induction j using Nat.strongRecOn with
    | ind j ih =>
      intro hj
      by_cases hl : listed.getD j true = true
      · exact (hsw listed j hsz hj).1 hl
      · exfalso
        have hoj : ops[j]? = some ops[j] := List.getElem?_eq_getElem hj
        have : j ∈ Region.ready .any ops.toArray listed := mem_ready.2 ⟨by simpa using hl, ops[j], by rw [List.getElem?_toArray]; exact hoj, fun e he hb => by
          have hlt := regOk_after hreg hoj (by simpa using he) hb
          exact ih e.on hlt (by omega)⟩
        rw [hnil] at this; cases this
  intro fuel
  induction fuel with
  | zero =>
    intro listed a w hsz hcnt hcl hinv
    have hall : ∀ j, j < ops.length → Lof listed j := fun j hj => (hsw listed j hsz hj).1 (cnt_zero (by omega) j hj)
    refine ⟨?_, ending listed a w hinv hall⟩
    cases hr : Region.ready .any ops.toArray listed with
    | nil => rfl
    | cons j r =>
      have hj : j ∈ Region.ready .any ops.toArray listed := by rw [hr]; exact List.mem_cons_self ..
      obtain ⟨h1, o, h2, _⟩ := mem_ready.1 hj
      have hlt : j < ops.length := by rw [List.getElem?_toArray] at h2; exact (List.getElem?_eq_some_iff.1 h2).1
      have := (hsw listed j hsz hlt).2 (hall j hlt)
      rw [h1] at this; cases this
  | succ fuel ih =>
    intro listed a w hsz hcnt hcl hinv
    refine ⟨fun hnil => ending listed a w hinv (nil_all listed hsz hnil), fun i hi => ?_⟩
    obtain ⟨h1, o, h2, h3⟩ := mem_ready.1 hi
    have ho : ops[i]? = some o := by rw [List.getElem?_toArray] at h2; exact h2
    have hlt : i < ops.length := (List.getElem?_eq_some_iff.1 ho).1
    have hn : ¬ Lof listed i := fun hl => by have := (hsw listed i hsz hlt).2 hl; rw [h1] at this; cases this
    have hL' : ∀ j, Lof (listed.setIfInBounds i true) j ↔ j = i ∨ Lof listed j := by
      intro j
      by_cases hij : i = j
      · subst hij
        have : i < listed.size := by omega
        simp [Lof, this]
      · unfold Lof
        rw [getD_set_ne false hij]
        constructor
        · exact fun h => .inr h
        · rintro (e | h)
          · exact absurd e.symm hij
          · exact h
    refine inv_step h hreg hc hok hw0 hst hpre hcl hinv ho hn (fun e he hb => h3 e (by simpa using he) hb) hL' (fun a' w' hinv' => ?_)
    refine ih _ a' w' (by simpa using hsz) ?_ ?_ hinv'
    · have := cnt_set (listed := listed) (i := i) (by omega) h1 (n := ops.length) hlt
      omega
    · intro y oy hy hly e he hb
      rcases (hL' y).1 hly with rfl | hl
      · rw [ho] at hy; injection hy with hy; subst hy
        exact (hL' _).2 (.inr (h3 e (by simpa using he) hb))
      · exact (hL' _).2 (.inr (hcl y oy hy hl e he hb))
end

theorem Good.drewUp {base : Nat} {S : St} (h : SR base S) (n : Nat) (hn : 0 ≤ 16000000) : Good base S ⟨⟨S.s.heap, S.s.next + n⟩, S.e, S.w.drew⟩ := by
  have hext : Ext S ⟨⟨S.s.heap, S.s.next + n⟩, S.e, S.w.drew⟩ := ⟨fun _ b hb => ⟨b, hb, Nat.le_refl _, Nat.le_refl _, rfl, fun _ _ _ => rfl⟩, fun _ es he => ⟨⟨es, he⟩, rfl⟩, fun _ arr _ fr hk => ⟨arr, fr, hk, rfl⟩⟩
  refine ⟨⟨hn, fun i o hi => by have := h.bound i o hi; show i < S.s.next + n; omega, h.low, fun i b hb c hc p hp => ?_, h.own, fun r es he => ?_, h.mapInj, h.size, h.inb⟩, hext, (Below.refl _ _).drew⟩
  · obtain ⟨v, h1, h2⟩ := h.cell i b hb c hc p hp
    exact ⟨v, h1, h2.mono hext⟩
  · obtain ⟨h1, es', clk, h2, h3⟩ := h.map r es he
    exact ⟨h1, es', clk, h2, h3.mono hext⟩

theorem drawRun_ok {P : Program} {call : Call} (hc : CallFr call) {Pre : Nat → World → Prop} (hok : CallOk P Pre call) (hst : Stays Pre) (hm : P.follows .mixedOrders = true) {id : Nat} {ops : Array Oper} (hreg : regOk P ops.toList = true) {base : Nat} {f f' : AFr} {s s' : ASt} {S : St} {a : Act}
    {Q : Exit → Act → World → Prop} (hs : Same s S.s) (sr : SR base S) (hpre : Pre base S.w) (hf : FR S f a) (hr : drawRun P call ops.toList f s = some (f', s')) (hq : ∀ T a', Same s' T.s → Good base S T → FR T f' a' → a'.defers = a.defers → Q .normal a' T.w) :
    (Code.region id ops true).wp P Q a S.w := by
  have hwS := sr.wf
  obtain ⟨t', hr', hst', _⟩ := drawRun_fr hc hs (hs.wf hwS) hr
  obtain ⟨es, F, G, tr, rfl, rfl⟩ := drawRun_trial hr'
  have e : ops = ops.toList.toArray := by simp
  rw [e]
  refine wp_region_any hm ?_
  have hg := Good.drewUp sr (allocs P ops.toList) tr.room
  have hL : ∀ j, ¬ Lof (Array.replicate ops.toList.toArray.size false) j := by
    intro j hj
    simp only [Lof, Array.getD_eq_getD_getElem?, Array.getElem?_replicate] at hj
    split at hj <;> simp at hj
  refine any_ok tr hreg hc hok hwS hst (base := base) (S0 := S) (a0 := a) hpre (fun T a' h1 h2 h3 h4 => hq T a' ?_ h2 h3 h4) _ _ a _ (by simp) ?_ (fun y o _ hl => absurd hl (hL y)) ?_
  · exact ⟨by rw [h1.next, hst'.next], (fun _ _ h => by cases h), fun i => by show T.s.heap.get i = s'.heap.get i; rw [h1.get i, hst'.get i]⟩
  · have : ∀ n m, cnt (Array.replicate m false) n ≤ n := by
      intro n m
      induction n with
      | zero => exact Nat.le_refl _
      | succ n ih => simp only [cnt]; split <;> omega
    have := this ops.toList.length ops.toList.toArray.size
    simpa using this
  · refine ⟨_, f, 0, rfl, hg, hf.mono hg.ext, rfl, by rw [tr.F0], Nat.zero_le _, fun x o _ _ => ⟨fun h => by omega, fun h => absurd h (hL x)⟩, ?_, ?_, ?_⟩
    · rw [tr.G0]
      exact ⟨rfl, fun i o h => h, fun i j b _ _ h => absurd h (hL j), fun i h _ => h⟩
    · intro j i b hm _
      have hb := (tr.bound hm).1
      show S.s.heap.get i = none
      cases hgi : S.s.heap.get i with
      | none => rfl
      | some o => have := hwS.bound i o hgi; omega
    · intro i hi t ht
      rw [tr.Fc t 0 i (Nat.zero_le _) hi (fun x o _ hx h1 h2 => absurd ((ht x o h1 h2).1 hx) (hL x)), tr.F0]

end Go.Cl
