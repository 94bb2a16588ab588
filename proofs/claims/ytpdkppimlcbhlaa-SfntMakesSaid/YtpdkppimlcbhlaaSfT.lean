/-
  Fonts in tables: the font that was made is read as it was; cut it is none.
-/
import Derived.Test.YtpdkppimlcbhlaaSfS
namespace Go.Cl.Sf
/-- The font of widths and codes. -/
def fontF (u : Nat) (W gl : List Int) : Fnt := ⟨u, W.length, (List.range W.length).map fun i => (W.getD i 0).toNat, (List.range 256).map fun i => (gl.getD i 0).toNat⟩
theorem atB_half {size place n : Nat} (h : place + 2 ≤ size) (hn : n < 65536) : half (atB size place n) place = n := by
  unfold half atB
  rw [List.append_assoc, part_later (by simp), List.take_append_of_le_length (Nat.le_of_eq (be_length _ _).symm), List.take_of_length_le (Nat.le_of_eq (be_length _ _)), bigOf_be (by omega)]
theorem hmtx_half {W : List Int} (hW : ∀ w ∈ W, 0 ≤ w ∧ w ≤ 65535) : ∀ n, n ≤ W.length → ∀ i, i < n → half (hmtxB W n) (4 * i) = (W.getD i 0).toNat := by
  intro n
  induction n with
  | zero => intro _ i h; omega
  | succ n ih =>
    intro hn i hi
    have hl := hmtxB_length (W := W) n (by omega)
    rw [hmtxB_succ (by omega), List.append_assoc]
    by_cases h : i < n
    · rw [half_app (by omega)]; exact ih (by omega) i h
    · obtain rfl : i = n := by omega
      have hw := hW _ (getDI_mem (l := W) (i := i) (by omega))
      unfold half
      rw [part_later hl, List.take_append_of_le_length (Nat.le_of_eq (be_length _ _).symm), List.take_of_length_le (Nat.le_of_eq (be_length _ _)), bigOf_be (by omega)]
set_option maxRecDepth 100000 in
theorem cmap_read {n : Nat} {gl : List Int} (hn : 1 ≤ n) (hG : ∀ g ∈ gl, 0 ≤ g ∧ g < n ∧ g < 256) (n0 : Nat) : cmapX n0 n (cmapB gl) = .ok ((List.range 256).map fun i => (gl.getD i 0).toNat) := by
  have hl := cmapB_length gl
  have h18 := cmap0_length
  have hh : ∀ i, i + 2 ≤ 18 → half (cmapB gl) i = half cmap0 i := fun i hi => half_app (by omega)
  have hw : word (cmapB gl) 8 = 12 := by unfold cmapB; rw [word_app (by omega)]; decide +kernel
  have h2 : half (cmapB gl) 2 = 1 := by rw [hh 2 (by omega)]; decide +kernel
  have h4 : half (cmapB gl) 4 = 1 := by rw [hh 4 (by omega)]; decide +kernel
  have h6 : half (cmapB gl) 6 = 0 := by rw [hh 6 (by omega)]; decide +kernel
  have h12 : half (cmapB gl) 12 = 0 := by rw [hh 12 (by omega)]; decide +kernel
  have h14 : half (cmapB gl) 14 = 262 := by rw [hh 14 (by omega)]; decide +kernel
  have hm : ((cmapB gl).drop 18).take 256 = mapB gl 256 := by
    unfold cmapB
    rw [part_later h18, List.take_of_length_le (Nat.le_of_eq (mapB_length _ _))]
  have hg : ∀ i, 0 ≤ gl.getD i 0 ∧ gl.getD i 0 < n ∧ gl.getD i 0 < 256 := fun i => by
    by_cases h : i < gl.length
    · exact hG _ (getDI_mem h)
    · rw [show gl.getD i 0 = 0 by simp [List.getD, List.getElem?_eq_none (Nat.le_of_not_lt h)]]; omega
  have hg8 : ∀ i, (UInt8.ofNat (gl.getD i 0).toNat).toNat = (gl.getD i 0).toNat := fun i => by
    have := hg i
    rw [UInt8.toNat_ofNat']; omega
  unfold cmapX
  rw [h2, if_neg (by omega)]
  show (if half (cmapB gl) (4 + 8 * 0) = 1 ∧ half (cmapB gl) (4 + 8 * 0 + 2) = 0 then mapX n (cmapB gl) (word (cmapB gl) (4 + 8 * 0 + 4)) else _) = _
  rw [show 4 + 8 * 0 = 4 from rfl, show 4 + 2 = 6 from rfl, show 4 + 4 = 8 from rfl, h4, h6, hw, if_pos ⟨rfl, rfl⟩]
  unfold mapX
  rw [show 12 + 2 = 14 from rfl, show 12 + 6 = 18 from rfl, h12, h14, hm, if_neg (by omega)]
  have hall : (mapB gl 256).all (fun x => decide (x.toNat < n)) = true := by
    rw [List.all_eq_true]
    intro x hx
    obtain ⟨i, _, rfl⟩ := List.mem_map.mp hx
    have := hg i
    exact decide_eq_true (by rw [hg8]; omega)
  rw [if_pos hall]
  congr 1
  unfold mapB
  rw [List.map_map]
  apply List.map_congr_left
  intro i _
  exact hg8 i
set_option maxRecDepth 100000 in
theorem fontX_made {u : Nat} {W gl : List Int} (h : ¬ badMk u W gl) (more : List UInt8) (n0 : Nat) : fontX n0 (fontB u W gl ++ more) = .ok (fontF u W gl) := by
  unfold badMk at h
  have hW : wideW W = false := by cases e : wideW W with | true => exact absurd (.inr (.inr (.inr (.inr (.inl e))))) h | false => rfl
  have hG : noneG W.length gl = false := by cases e : noneG W.length gl with | true => exact absurd (.inr (.inr (.inr (.inr (.inr (.inr e)))))) h | false => rfl
  have hW := wideW_false hW
  have hG := noneG_false hG
  have hu0 : 16 ≤ u := by omega
  have hu1 : u ≤ 16384 := by omega
  have hn0 : 1 ≤ W.length := by omega
  have hn1 : W.length ≤ 1000 := by omega
  obtain ⟨L, hL⟩ : ∃ L, L = partsB u W gl := ⟨_, rfl⟩
  have hbl : (bodyTo L 5).length ≤ 4003 * 5 := by rw [hL]; exact body_le hn1 5 (by omega)
  have hm := tabsX_made (made L more (by omega))
  have hT : ((List.range 5).map fun j => (namesB.getD j [], L.getD j [])) = [(nCmap, cmapB gl), (nHead, atB 54 18 u), (nHhea, atB 36 34 W.length), (nHmtx, hmtxB W W.length), (nMaxp, atB 6 4 W.length)] := by rw [hL]; rfl
  rw [hT] at hm
  have hfb : fontB u W gl = outTo L 5 ++ bodyTo L 5 := by rw [hL]; rfl
  rw [hfb, fontX_yes hm n0 (x0 := atB 54 18 u) (x1 := atB 36 34 W.length) (x2 := atB 6 4 W.length) (x3 := hmtxB W W.length) (x4 := cmapB gl) (by simp [lookT, nCmap, nHead]) (by simp [lookT, nCmap, nHead, nHhea]) (by simp [lookT, nCmap, nHead, nHhea, nHmtx, nMaxp]) (by simp [lookT, nCmap, nHead, nHhea, nHmtx]) (by simp [lookT])]
  have a1 := atB_length (size := 54) (place := 18) (n := u) (by omega)
  have a2 := atB_length (size := 36) (place := 34) (n := W.length) (by omega)
  have a3 := atB_length (size := 6) (place := 4) (n := W.length) (by omega)
  have a4 := hmtxB_length (W := W) W.length (Nat.le_refl _)
  have b1 : half (atB 54 18 u) 18 = u := atB_half (by omega) (by omega)
  have b2 : half (atB 36 34 W.length) 34 = W.length := atB_half (by omega) (by omega)
  have b3 : half (atB 6 4 W.length) 4 = W.length := atB_half (by omega) (by omega)
  rw [if_neg (by unfold badM; rw [a1, a2, a3, a4, b1, b2, b3]; omega), b1, b2, b3, cmap_read hn0 hG]
  simp only [fontF]
  congr 2
  exact List.map_congr_left fun i hi => hmtx_half hW W.length (Nat.le_refl _) i (List.mem_range.mp hi)
/-- Each table that is read lies in the bytes. -/
theorem tabsF_in {b : List UInt8} : ∀ (k i : Nat) (out T : List Tab), tabsF b k i out = .ok T → ∀ j, i ≤ j → j < i + k → word b (12 + 16 * j + 8) + word b (12 + 16 * j + 12) ≤ b.length := by
  intro k
  induction k with
  | zero => intro i out T _ j h1 h2; omega
  | succ k ih =>
    intro i out T h j h1 h2
    rw [tabsF] at h
    split at h
    · cases h
    · rename_i hc
      by_cases e : j = i
      · subst e
        have hc1 : ¬ b.length < word b (12 + 16 * j + 8) := fun q => hc (.inl q)
        have hc2 : ¬ b.length - word b (12 + 16 * j + 8) < word b (12 + 16 * j + 12) := fun q => hc (.inr (.inl q))
        omega
      · exact ih _ _ _ h j (by omega) (by omega)
/-- Cut, it is none. -/
theorem fontX_cut {u : Nat} {W gl : List Int} (h : ¬ badMk u W gl) {m : Nat} (hm : m + 2 < (fontB u W gl).length) (n0 : Nat) : ∃ e, fontX n0 ((fontB u W gl).take m) = .error e ∧ (e = 2 ∨ e = 4) := by
  unfold badMk at h
  have hn1 : W.length ≤ 1000 := by omega
  obtain ⟨L, hL⟩ : ∃ L, L = partsB u W gl := ⟨_, rfl⟩
  have hbl : (bodyTo L 5).length ≤ 4003 * 5 := by rw [hL]; exact body_le hn1 5 (by omega)
  have hM := made L [] (by omega)
  rw [List.append_nil] at hM
  have hfb : fontB u W gl = outTo L 5 ++ bodyTo L 5 := by rw [hL]; rfl
  rw [← hfb] at hM
  obtain ⟨b, hb⟩ : ∃ b, b = fontB u W gl := ⟨_, rfl⟩
  rw [← hb] at hM hm hfb ⊢
  have hol := outTo_length L 5 (by omega)
  have hbln : b.length = 92 + (bodyTo L 5).length := by rw [hfb, List.length_append, hol]
  have h6 : (L.getD 4 []).length = 6 := by
    rw [hL]; show (atB 6 4 W.length).length = 6; exact atB_length (by omega)
  have hb4 : (bodyTo L 4).length % 4 = 0 := by
    rw [bodyTo, List.length_append, List.length_replicate]
    unfold padB; omega
  have hb5 : (bodyTo L 5).length = (bodyTo L 4).length + 8 := by
    rw [bodyTo, List.length_append, List.length_replicate, List.length_append, h6]
    unfold padB; omega
  have hlen : (b.take m).length = m := by rw [List.length_take]; omega
  cases hr : tabsX (b.take m) with
  | error e => exact ⟨e, fontX_err hr n0, tabsX_err hr⟩
  | ok T =>
    exfalso
    unfold tabsX at hr
    split at hr
    · cases hr
    rename_i c1
    split at hr
    · cases hr
    split at hr
    · cases hr
    rename_i c3
    have h5 : half (b.take m) 4 = 5 := by
      rw [half_take (by omega), show half b 4 = half (b.take 12) 4 from (half_take (by omega)).symm, hM.head]
      show half ([0, 1, 0, 0] ++ be 2 5 ++ List.replicate 6 0) 4 = 5
      decide +kernel
    rw [h5] at hr c3
    have := tabsF_in _ _ _ _ hr 4 (by omega) (by omega)
    rw [word_take (by omega), word_take (by omega), hM.place 4 (by omega), hM.size 4 (by omega), h6, hlen] at this
    omega
end Go.Cl.Sf
