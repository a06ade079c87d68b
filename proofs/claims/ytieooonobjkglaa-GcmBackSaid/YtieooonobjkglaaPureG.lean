/- GHASH's arithmetic as plain functions. No condition; no program in sight. -/
import Derived.Test.YtieooonobjkglaaB
import Derived.Test.YtieooonobjkglaaPureA
namespace Go.Proofs.Ytieooonobjkglaa
open SW
namespace Sx
def wordOf (l : List UInt8) : UInt64 := l.foldl (fun n c => (n <<< 8) ||| c.toUInt64) 0
theorem wordOf_succ (l : List UInt8) (k : Nat) (h : k < l.length) : wordOf (l.take (k + 1)) = (wordOf (l.take k) <<< 8) ||| (l.getD k 0).toUInt64 := by
  unfold wordOf
  rw [List.take_add_one, List.foldl_append, List.getD_eq_getElem?_getD, List.getElem?_eq_getElem h]
  rfl
def word (l : List UInt8) : UInt64 := wordOf (l.take 8)
def num (n : UInt64) (i : Nat) : UInt8 := (n >>> UInt64.ofNat (56 - 8 * i)).toUInt8
def nums (n : UInt64) : List UInt8 := (List.range 8).map (num n)
abbrev Poly := UInt64 × UInt64
def bit (p : Poly) (i : Nat) : Bool := ((if i < 64 then p.1 else p.2) >>> UInt64.ofNat (63 - i % 64)) &&& 1 == 1
def shifted (p : Poly) : Poly := (p.1 >>> 1, p.1 <<< 63 ||| p.2 >>> 1)
def raised (p : Poly) : Poly := if p.2 &&& 1 == 1 then ((shifted p).1 ^^^ 16212958658533785600, (shifted p).2) else shifted p
def pxor (p q : Poly) : Poly := (p.1 ^^^ q.1, p.2 ^^^ q.2)
/-- The product's sum behind k rounds. -/
def timesAt (p q : Poly) : Nat → Poly
  | 0 => (0, 0)
  | k + 1 => if bit q (127 - k) then pxor (raised (timesAt p q k)) p else raised (timesAt p q k)
def times (p q : Poly) : Poly := timesAt p q 128
def polyOf (l : List UInt8) : Poly := (word l, word (l.drop 8))
def polyBlock (p : Poly) : List UInt8 := nums p.1 ++ nums p.2
theorem nums_length (n : UInt64) : (nums n).length = 8 := by simp [nums]
theorem polyBlock_length (p : Poly) : (polyBlock p).length = 16 := by simp [polyBlock, nums_length]
end Sx
theorem U64_shl8 (a : UInt64) : U64 a * (256 : Int) % (18446744073709551616 : Int) = U64 (a <<< 8) := by
  have := U64_shl a 8 (by omega)
  exact this
theorem U64_shl63 (a : UInt64) : U64 a * (9223372036854775808 : Int) % (18446744073709551616 : Int) = U64 (a <<< 63) := by
  have := U64_shl a 63 (by omega)
  exact this
theorem U64_shr1 (a : UInt64) : U64 a / (2 : Int) = U64 (a >>> 1) := U64_shr a 1 (by omega)
theorem U64_wshl8 (a : UInt64) : IntKind.u64.wrap (U64 a * (256 : Int)) = U64 (a <<< 8) := U64_shl a 8 (by omega)
theorem U64_wshl63 (a : UInt64) : IntKind.u64.wrap (U64 a * (9223372036854775808 : Int)) = U64 (a <<< 63) := U64_shl a 63 (by omega)
theorem U64_w8 (c : UInt8) : IntKind.u64.wrap (U8 c) = U8 c := by rw [U64_of8, U64_wrap]
theorem U64_or8 (a : UInt64) (c : UInt8) : bits BinOp.or IntKind.u64 (U64 a) (U8 c) = U64 (a ||| c.toUInt64) := by rw [U64_of8, U64_or]
theorem U64_mod256 (a : UInt64) : U64 a % (256 : Int) = U8 a.toUInt8 := by unfold U64 U8; simp
theorem U64_and1 (a : UInt64) : bits BinOp.and IntKind.u64 (U64 a) 1 = U64 (a &&& 1) := U64_and a 1
theorem U64_beq1 (a : UInt64) : (U64 a == 1) = (a == 1) := U64_beq a 1
theorem U64_xorE1 (a : UInt64) : bits BinOp.xor IntKind.u64 (U64 a) 16212958658533785600 = U64 (a ^^^ 16212958658533785600) := U64_xor a 16212958658533785600
/-- A polynomial as a value. -/
def pv (p : Sx.Poly) : Array Value := #[.int .u64 (U64 p.1), .int .u64 (U64 p.2)]
end Go.Proofs.Ytieooonobjkglaa
