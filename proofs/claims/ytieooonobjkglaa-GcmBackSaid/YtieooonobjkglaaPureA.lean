/- AES as plain functions on lists of bytes, as the program's text computes it. No condition; no program in sight. -/
import Derived.Test.YtieooonobjkglaaPureF
namespace Go.Proofs.Ytieooonobjkglaa
namespace Sx

/-- A row of n that is written from its head on: f up to place k, g from there. -/
def gens {α : Type} (f g : Nat → α) (n k : Nat) : List α := (List.range n).map fun i => if i < k then f i else g i
theorem gens_length {α : Type} (f g : Nat → α) (n k : Nat) : (gens f g n k).length = n := by simp [gens]
theorem gens_get {α : Type} (f g : Nat → α) (n k j : Nat) (h : j < n) : (gens f g n k)[j]? = some (if j < k then f j else g j) := by
  simp [gens, List.getElem?_range h]
theorem gens_zero {α : Type} (f g : Nat → α) (n : Nat) : gens f g n 0 = (List.range n).map g := by simp [gens]
theorem gens_all {α : Type} (f g : Nat → α) (n : Nat) : gens f g n n = (List.range n).map f := by
  unfold gens
  apply List.map_congr_left
  intro i hi
  rw [if_pos (List.mem_range.1 hi)]
theorem gens_set {α : Type} (f g : Nat → α) (n k : Nat) : (gens f g n k).set k (f k) = gens f g n (k + 1) := by
  apply List.ext_getElem?
  intro i
  rw [List.getElem?_set]
  by_cases hn : i < n
  · rw [gens_get f g n k i hn, gens_get f g n (k + 1) i hn]
    by_cases e : k = i
    · subst e
      rw [if_pos rfl, if_pos (by rw [gens_length]; exact hn), if_pos (by omega)]
    · rw [if_neg e]
      by_cases e2 : i < k
      · rw [if_pos e2, if_pos (by omega)]
      · rw [if_neg e2, if_neg (by omega)]
  · have h1 : (gens f g n k)[i]? = none := List.getElem?_eq_none (by rw [gens_length]; omega)
    have h2 : (gens f g n (k + 1))[i]? = none := List.getElem?_eq_none (by rw [gens_length]; omega)
    rw [h1, h2]
    by_cases e : k = i
    · rw [if_pos e, if_neg (by rw [gens_length]; omega)]
    · rw [if_neg e]
theorem range_getD {α : Type} (d : α) (l : List α) (n : Nat) (h : l.length = n) : (List.range n).map (fun i => l.getD i d) = l := by
  subst h
  apply List.ext_getElem?
  intro i
  by_cases hi : i < l.length
  · simp [hi]
  · rw [List.getElem?_eq_none (by simp; omega), List.getElem?_eq_none (by omega)]
theorem map_range_getD {α β : Type} (d : α) (F : α → β) (l : List α) (n : Nat) (h : l.length = n) : (List.range n).map (fun i => F (l.getD i d)) = l.map F := by
  have := congrArg (List.map F) (range_getD d l n h)
  rw [List.map_map] at this
  exact this

def turned (l : List UInt8) : List UInt8 := (List.range 16).map fun i => l.getD ((i + 4 * (i % 4)) % 16) 0
def withKey (l k : List UInt8) : List UInt8 := (List.range 16).map fun i => l.getD i 0 ^^^ k.getD i 0
def all4 (l : List UInt8) (c : Nat) : UInt8 := l.getD c 0 ^^^ l.getD (c + 1) 0 ^^^ l.getD (c + 2) 0 ^^^ l.getD (c + 3) 0
def mix1 (l : List UInt8) (i : Nat) : UInt8 := l.getD i 0 ^^^ (all4 l (i / 4 * 4) ^^^ mul (l.getD i 0 ^^^ l.getD (i / 4 * 4 + (i % 4 + 1) % 4) 0) 2)
def mixed (l : List UInt8) : List UInt8 := (List.range 16).map (mix1 l)
theorem turned_length (l : List UInt8) : (turned l).length = 16 := by simp [turned]
theorem withKey_length (l k : List UInt8) : (withKey l k).length = 16 := by simp [withKey]
theorem mixed_length (l : List UInt8) : (mixed l).length = 16 := by simp [mixed]
theorem mix4 (l : List UInt8) (k : Nat) (x0 x1 x2 x3 : UInt8) (h0 : l.getD (4 * k) 0 = x0) (h1 : l.getD (4 * k + 1) 0 = x1) (h2 : l.getD (4 * k + 2) 0 = x2) (h3 : l.getD (4 * k + 3) 0 = x3) :
    ((((gens (mix1 l) (fun i => l.getD i 0) 16 (4 * k)).set (4 * k) (x0 ^^^ (x0 ^^^ x1 ^^^ x2 ^^^ x3 ^^^ mul (x0 ^^^ x1) 2))).set (4 * k + 1) (x1 ^^^ (x0 ^^^ x1 ^^^ x2 ^^^ x3 ^^^ mul (x1 ^^^ x2) 2))).set (4 * k + 2) (x2 ^^^ (x0 ^^^ x1 ^^^ x2 ^^^ x3 ^^^ mul (x2 ^^^ x3) 2))).set (4 * k + 3) (x3 ^^^ (x0 ^^^ x1 ^^^ x2 ^^^ x3 ^^^ mul (x3 ^^^ x0) 2)) =
      gens (mix1 l) (fun i => l.getD i 0) 16 (4 * (k + 1)) := by
  have e : ∀ r, r < 4 → (4 * k + r) / 4 * 4 = 4 * k ∧ (4 * k + r) % 4 = r := fun r hr => by omega
  have m0 : mix1 l (4 * k) = x0 ^^^ (x0 ^^^ x1 ^^^ x2 ^^^ x3 ^^^ mul (x0 ^^^ x1) 2) := by
    have := e 0 (by omega)
    simp only [Nat.add_zero] at this
    unfold mix1 all4
    rw [this.1, this.2, h0, h1, h2, h3]
  have m1 : mix1 l (4 * k + 1) = x1 ^^^ (x0 ^^^ x1 ^^^ x2 ^^^ x3 ^^^ mul (x1 ^^^ x2) 2) := by
    unfold mix1 all4
    rw [(e 1 (by omega)).1, (e 1 (by omega)).2, h0, h1, h2, h3]
  have m2 : mix1 l (4 * k + 2) = x2 ^^^ (x0 ^^^ x1 ^^^ x2 ^^^ x3 ^^^ mul (x2 ^^^ x3) 2) := by
    unfold mix1 all4
    rw [(e 2 (by omega)).1, (e 2 (by omega)).2, h0, h1, h2, h3]
  have m3 : mix1 l (4 * k + 3) = x3 ^^^ (x0 ^^^ x1 ^^^ x2 ^^^ x3 ^^^ mul (x3 ^^^ x0) 2) := by
    unfold mix1 all4
    rw [(e 3 (by omega)).1, (e 3 (by omega)).2, h0, h1, h2, h3]
    show _ ^^^ (_ ^^^ mul (x3 ^^^ l.getD (4 * k + 0) 0) 2) = _
    rw [Nat.add_zero, h0]
  rw [show 4 * (k + 1) = 4 * k + 3 + 1 by omega, ← m0, gens_set, ← m1, gens_set, ← m2, gens_set, ← m3, gens_set]
/-- A round: of n round keys, the one behind place i. -/
def rnd (n : Nat) (s : List UInt8) (i : Nat) (k : List UInt8) : List UInt8 := withKey (if i + 2 < n then mixed (turned (s.map box)) else turned (s.map box)) k
def rounds (n : Nat) (K : Nat → List UInt8) (s : List UInt8) : Nat → List UInt8
  | 0 => s
  | i + 1 => rnd n (rounds n K s i) i (K (i + 1))
def crypt (n : Nat) (K : Nat → List UInt8) (block : List UInt8) : List UInt8 := rounds n K (withKey block (K 0)) (n - 1)
theorem rnd_length (n : Nat) (s : List UInt8) (i : Nat) (k : List UInt8) : (rnd n s i k).length = 16 := withKey_length _ _
theorem rounds_length (n : Nat) (K : Nat → List UInt8) (s : List UInt8) (hs : s.length = 16) (i : Nat) : (rounds n K s i).length = 16 := by
  cases i with
  | zero => exact hs
  | succ i => exact rnd_length _ _ _ _
end Sx
end Go.Proofs.Ytieooonobjkglaa
