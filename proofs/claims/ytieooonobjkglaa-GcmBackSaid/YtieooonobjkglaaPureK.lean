/- AES's round keys as plain functions on lists of bytes. No condition; no program in sight. -/
import Derived.Test.YtieooonobjkglaaPureA
namespace Go.Proofs.Ytieooonobjkglaa
namespace Sx
/-- A word, turned, by its number. -/
def kword (k i : Nat) (x0 x1 x2 x3 : UInt8) : List UInt8 :=
  if i % k = 0 then [box x1 ^^^ pow 2 (i / k - 1), box x2, box x3, box x0]
  else if k = 8 ∧ i % k = 4 then [box x0, box x1, box x2, box x3]
  else [x0, x1, x2, x3]
def kwords (k i : Nat) (all : List UInt8) : List UInt8 := kword k i (all.getD (4 * i - 4) 0) (all.getD (4 * i - 4 + 1) 0) (all.getD (4 * i - 4 + 2) 0) (all.getD (4 * i - 4 + 3) 0)
def kadd (k i : Nat) (all ys : List UInt8) (r : Nat) : List UInt8 := (List.range r).map fun r => all.getD (4 * (i - k) + r) 0 ^^^ ys.getD r 0
/-- All bytes, up to word i. -/
def kall (k : Nat) (key : List UInt8) : Nat → List UInt8
  | 0 => key
  | i + 1 => if i < k then key else kall k key i ++ kadd k i (kall k key i) (kwords k i (kall k key i)) 4
def keyAt (k : Nat) (key : List UInt8) (j : Nat) : List UInt8 := ((kall k key (4 * (k + 7))).drop (16 * j)).take 16
theorem kword_length (k i : Nat) (x0 x1 x2 x3 : UInt8) : (kword k i x0 x1 x2 x3).length = 4 := by
  unfold kword
  split
  · rfl
  · split <;> rfl
theorem kadd_length (k i : Nat) (all ys : List UInt8) (r : Nat) : (kadd k i all ys r).length = r := by simp [kadd]
theorem kadd_succ (k i : Nat) (all ys : List UInt8) (r : Nat) : kadd k i all ys (r + 1) = kadd k i all ys r ++ [all.getD (4 * (i - k) + r) 0 ^^^ ys.getD r 0] := by
  simp [kadd, List.range_succ]
theorem kall_first (k : Nat) (key : List UInt8) (i : Nat) (h : i ≤ k) : kall k key i = key := by
  cases i with
  | zero => rfl
  | succ i => rw [kall, if_pos (by omega)]
theorem kall_succ (k : Nat) (key : List UInt8) (i : Nat) (h : k ≤ i) : kall k key (i + 1) = kall k key i ++ kadd k i (kall k key i) (kwords k i (kall k key i)) 4 := by
  rw [kall, if_neg (by omega)]
theorem kall_length (k : Nat) (key : List UInt8) (hk : key.length = 4 * k) (i : Nat) (h : k ≤ i) : (kall k key i).length = 4 * i := by
  induction i with
  | zero => simp [kall, hk]; omega
  | succ i ih =>
    by_cases e : k ≤ i
    · rw [kall_succ k key i e, List.length_append, kadd_length, ih e]; omega
    · rw [kall_first k key _ (by omega), hk]; omega
theorem keyAt_length (k : Nat) (key : List UInt8) (hk : key.length = 4 * k) (j : Nat) (hj : j < k + 7) : (keyAt k key j).length = 16 := by
  unfold keyAt
  rw [List.length_take, List.length_drop, kall_length k key hk _ (by omega)]
  omega
end Sx
end Go.Proofs.Ytieooonobjkglaa
