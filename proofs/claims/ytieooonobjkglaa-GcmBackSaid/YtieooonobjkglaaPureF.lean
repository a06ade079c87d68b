/- The field's and AES's functions as plain functions on bytes, as the program's text computes them. No condition; no program in sight. -/
import Derived.Test.YtieooonobjkglaaB
namespace Go.Proofs.Ytieooonobjkglaa
namespace Sx

def tw (a : UInt8) : UInt8 := if a ≥ 128 then (a <<< 1) ^^^ 27 else a <<< 1
def mulL (b : UInt8) (a : UInt8) : Nat → UInt8 × UInt8
  | 0 => (a, 0)
  | k + 1 => (tw (mulL b a k).1, if (b >>> UInt8.ofNat k) &&& 1 == 1 then (mulL b a k).2 ^^^ (mulL b a k).1 else (mulL b a k).2)
def mul (a b : UInt8) : UInt8 := (mulL b a 8).2
def powL : Nat → UInt8 → UInt8 → Nat → UInt8
  | 0, out, _, _ => out
  | f + 1, out, a, n => if n = 0 then out else powL f (if n % 2 = 1 then mul out a else out) (mul a a) (n / 2)
def pow (a : UInt8) (n : Nat) : UInt8 := powL n 1 a n
def inv (a : UInt8) : UInt8 := pow a 254
def rotl (x : UInt8) (k : Nat) : UInt8 := (x <<< UInt8.ofNat k) ||| (x >>> UInt8.ofNat (8 - k))
def box (a : UInt8) : UInt8 := inv a ^^^ rotl (inv a) 1 ^^^ rotl (inv a) 2 ^^^ rotl (inv a) 3 ^^^ rotl (inv a) 4 ^^^ 99

theorem powL_more (f : Nat) : ∀ (g n : Nat) (out a : UInt8), n ≤ f → n ≤ g → powL f out a n = powL g out a n := by
  induction f with
  | zero =>
    intro g n out a h _
    obtain rfl : n = 0 := by omega
    cases g <;> simp [powL]
  | succ f ih =>
    intro g n out a h h'
    cases g with
    | zero => obtain rfl : n = 0 := by omega
              simp [powL]
    | succ g =>
      simp only [powL]
      by_cases e : n = 0
      · simp [e]
      · simp only [e, if_false]
        exact ih g (n / 2) _ _ (by omega) (by omega)
theorem powL_step (n : Nat) (out a : UInt8) (h : 0 < n) : powL n out a n = powL (n / 2) (if n % 2 = 1 then mul out a else out) (mul a a) (n / 2) := by
  obtain ⟨m, rfl⟩ : ∃ m, n = m + 1 := ⟨n - 1, by omega⟩
  rw [powL, if_neg (by omega)]
  exact powL_more _ _ _ _ _ (by omega) (by omega)
end Sx
end Go.Proofs.Ytieooonobjkglaa
