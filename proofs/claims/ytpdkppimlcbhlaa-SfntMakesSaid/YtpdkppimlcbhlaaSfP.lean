/-
  Fonts in tables: the plain law of reading.
-/
import Derived.Test.YtpdkppimlcbhlaaNum
namespace Go.Cl.Sf
/-- Two bytes, four bytes at a place. -/
def half (b : List UInt8) (at_ : Nat) : Nat := bigOf ((b.drop at_).take 2)
def word (b : List UInt8) (at_ : Nat) : Nat := bigOf ((b.drop at_).take 4)
abbrev Tab := List UInt8 × List UInt8
def lookT (l : List Tab) (n : List UInt8) : Option (List UInt8) := (l.find? fun e => e.1 == n).map (·.2)
/-- The tables, so many of them from a row on. -/
def tabsF (b : List UInt8) : Nat → Nat → List Tab → Except Nat (List Tab)
  | 0, _, out => .ok out
  | k + 1, i, out =>
    if b.length < word b (12 + 16 * i + 8) ∨ b.length - word b (12 + 16 * i + 8) < word b (12 + 16 * i + 12) ∨ (lookT out ((b.drop (12 + 16 * i)).take 4)).isSome then .error 4
    else tabsF b k (i + 1) (out ++ [((b.drop (12 + 16 * i)).take 4, (b.drop (word b (12 + 16 * i + 8))).take (word b (12 + 16 * i + 12)))])
def tabsX (b : List UInt8) : Except Nat (List Tab) :=
  if b.length < 12 then .error 2
  else if b.take 4 ≠ [0, 1, 0, 0] ∧ b.take 4 ≠ [116, 114, 117, 101] then .error 4
  else if b.length < 12 + 16 * half b 4 then .error 2
  else tabsF b (half b 4) 0 []
structure Fnt where
  units : Nat
  glyphs : Nat
  widths : List Nat
  map : List Nat
/-- Each code's glyph. -/
def mapX (g : Nat) (c : List UInt8) (p : Nat) : Except Nat (List Nat) :=
  if c.length < p ∨ c.length - p < 262 ∨ half c p ≠ 0 ∨ half c (p + 2) ≠ 262 then .error 4
  else if ((c.drop (p + 6)).take 256).all (fun x => decide (x.toNat < g)) then .ok (((c.drop (p + 6)).take 256).map (·.toNat)) else .error 4
def cmapF (none_ g : Nat) (c : List UInt8) : Nat → Nat → Except Nat (List Nat)
  | 0, _ => .error none_
  | k + 1, i => if half c (4 + 8 * i) = 1 ∧ half c (4 + 8 * i + 2) = 0 then mapX g c (word c (4 + 8 * i + 4)) else cmapF none_ g c k (i + 1)
def cmapX (none_ g : Nat) (c : List UInt8) : Except Nat (List Nat) :=
  if c.length < 4 ∨ c.length < 4 + 8 * half c 2 then .error 4 else cmapF none_ g c (half c 2) 0
def nHead : List UInt8 := [104, 101, 97, 100]
def nHhea : List UInt8 := [104, 104, 101, 97]
def nMaxp : List UInt8 := [109, 97, 120, 112]
def nHmtx : List UInt8 := [104, 109, 116, 120]
def nCmap : List UInt8 := [99, 109, 97, 112]
/-- What is wrong with how wide the glyphs are. -/
def badM (head hhea maxp hmtx : List UInt8) : Prop :=
  head.length < 54 ∨ hhea.length < 36 ∨ maxp.length < 6 ∨ half head 18 < 16 ∨ 16384 < half head 18 ∨ half hhea 34 < 1 ∨ half maxp 4 < half hhea 34 ∨ hmtx.length < 4 * half hhea 34 + 2 * (half maxp 4 - half hhea 34)
instance (a b c d : List UInt8) : Decidable (badM a b c d) := by unfold badM; infer_instance
/-- The font that bytes are. -/
def fontX (none_ : Nat) (b : List UInt8) : Except Nat Fnt :=
  match tabsX b with
  | .error e => .error e
  | .ok l =>
    match lookT l nHead, lookT l nHhea, lookT l nMaxp, lookT l nHmtx, lookT l nCmap with
    | some head, some hhea, some maxp, some hmtx, some cmap =>
      if badM head hhea maxp hmtx then .error 4
      else match cmapX none_ (half maxp 4) cmap with
        | .error e => .error e
        | .ok m => .ok ⟨half head 18, half maxp 4, (List.range (half hhea 34)).map fun i => half hmtx (4 * i), m⟩
    | _, _, _, _, _ => .error none_
def Fnt.width (f : Fnt) (g : Int) : Int := if g < 0 ∨ (f.glyphs : Int) ≤ g ∨ f.widths.length = 0 then -1 else ((f.widths.getD (min g.toNat (f.widths.length - 1)) 0 : Nat) : Int)
def Fnt.glyph (f : Fnt) (c : Int) : Int := if c < 0 ∨ (f.map.length : Int) ≤ c then -1 else ((f.map.getD c.toNat 0 : Nat) : Int)
def Fnt.advance (f : Fnt) (c : Int) : Int := if f.glyph c < 0 ∨ f.units < 1 then -1 else (1000 * f.width (f.glyph c)).tdiv f.units
theorem half_lt (b : List UInt8) (i : Nat) : half b i < 65536 := by
  have h := bigOf_lt ((b.drop i).take 2) _ rfl
  have h2 : ((b.drop i).take 2).length ≤ 2 := by rw [List.length_take]; omega
  exact Nat.lt_of_lt_of_le h (Nat.le_trans (Nat.pow_le_pow_right (by decide) h2) (by decide : 256 ^ 2 ≤ 65536))
theorem word_lt (b : List UInt8) (i : Nat) : word b i < 4294967296 := by
  have h := bigOf_lt ((b.drop i).take 4) _ rfl
  have h2 : ((b.drop i).take 4).length ≤ 4 := by rw [List.length_take]; omega
  exact Nat.lt_of_lt_of_le h (Nat.le_trans (Nat.pow_le_pow_right (by decide) h2) (by decide : 256 ^ 4 ≤ 4294967296))
theorem look_snoc (l : List Tab) (n x m : List UInt8) : lookT (l ++ [(n, x)]) m = match lookT l m with | some y => some y | none => if n = m then some x else none := by
  unfold lookT
  rw [List.find?_append]
  cases h : l.find? fun e => e.1 == m with
  | some y => simp
  | none =>
    by_cases e : n = m
    · subst e; simp
    · simp [e]
theorem look_none {l : List Tab} {m : List UInt8} (h : lookT l m = none) : ∀ e ∈ l, e.1 ≠ m := by
  intro e he heq
  unfold lookT at h
  rw [Option.map_eq_none_iff, List.find?_eq_none] at h
  exact h e he (by simpa using heq)
end Go.Cl.Sf
