/- Words for bytes and unsigned machine words in a walk: U8, U32, U64 are the numbers of a UInt8, UInt32, UInt64; the model's operations on them are UInt's own. No condition. -/
import Derived.WalkKit
import Derived.WalkSpells
import Derived.WalkLawsBesides
import Derived.KernelRfl
import Derived.Laws.BitsLemmas
import Derived.Lib.Hide
namespace Go.Proofs.Ytieooonobjkglaa
open Go Go.RowKit
namespace SW


def U8 (a : UInt8) : Int := (a.toNat : Int)
theorem U8_fold (a : UInt8) : (a.toNat : Int) = U8 a := rfl
theorem U8_lo (a : UInt8) : 0 ≤ U8 a := by unfold U8; omega
theorem U8_lt (a : UInt8) : U8 a < 256 := by unfold U8; have := a.toNat_lt; omega
theorem U8_inj {a b : UInt8} (h : U8 a = U8 b) : a = b := by unfold U8 at h; exact UInt8.toNat_inj.1 (by omega)
theorem U8_toNat (a : UInt8) : (U8 a).toNat = a.toNat := by unfold U8; omega
theorem U8_ofNat (x : Int) (h0 : 0 ≤ x) (h1 : x < 256) : U8 (UInt8.ofNat x.toNat) = x := by
  unfold U8
  rw [UInt8.toNat_ofNat']
  have : x.toNat < 256 := by omega
  rw [Nat.mod_eq_of_lt (by simpa using this)]
  omega
theorem U8_beq (a b : UInt8) : (U8 a == U8 b) = (a == b) := by
  rw [Bool.eq_iff_iff, beq_iff_eq, beq_iff_eq]
  exact ⟨U8_inj, fun h => by rw [h]⟩
theorem U8_le (a b : UInt8) : U8 a ≤ U8 b ↔ a ≤ b := by unfold U8; rw [UInt8.le_iff_toNat_le]; omega
theorem U8_lt' (a b : UInt8) : U8 a < U8 b ↔ a < b := by unfold U8; rw [UInt8.lt_iff_toNat_lt]; omega
theorem U8_ofInt (a : UInt8) : BitVec.ofInt 8 (U8 a) = a.toBitVec := by
  apply BitVec.eq_of_toNat_eq
  rw [BitVec.toNat_ofInt]
  have := a.toNat_lt
  show ((a.toNat : Int) % (2 ^ 8 : Nat)).toNat = a.toNat
  omega
theorem U8_wrap (a : UInt8) : IntKind.u8.wrap (U8 a) = U8 a := by
  have h0 := U8_lo a
  have h1 := U8_lt a
  simp only [IntKind.wrap, IntKind.bits, IntKind.signed]
  have e : ((2 : Int) ^ 8) = 256 := by decide
  simp only [e]
  simp
  omega
theorem U8_wrap_of (x : Int) (y : UInt8) (h : x % 256 = U8 y) : IntKind.u8.wrap x = U8 y := by
  simp only [IntKind.wrap, IntKind.bits, IntKind.signed]
  have e : ((2 : Int) ^ 8) = 256 := by decide
  simp only [e]
  simpa using h
theorem U8_xor (a b : UInt8) : bits BinOp.xor IntKind.u8 (U8 a) (U8 b) = U8 (a ^^^ b) := by
  show IntKind.u8.wrap _ = _
  simp only [IntKind.bits, U8_ofInt]
  exact U8_wrap (a ^^^ b)
theorem U8_and (a b : UInt8) : bits BinOp.and IntKind.u8 (U8 a) (U8 b) = U8 (a &&& b) := by
  show IntKind.u8.wrap _ = _
  simp only [IntKind.bits, U8_ofInt]
  exact U8_wrap (a &&& b)
theorem U8_or (a b : UInt8) : bits BinOp.or IntKind.u8 (U8 a) (U8 b) = U8 (a ||| b) := by
  show IntKind.u8.wrap _ = _
  simp only [IntKind.bits, U8_ofInt]
  exact U8_wrap (a ||| b)
theorem U8_add (a b : UInt8) : IntKind.u8.wrap (U8 a + U8 b) = U8 (a + b) := by
  apply U8_wrap_of
  unfold U8
  rw [UInt8.toNat_add]
  omega
theorem U8_mul (a b : UInt8) : IntKind.u8.wrap (U8 a * U8 b) = U8 (a * b) := by
  apply U8_wrap_of
  unfold U8
  rw [UInt8.toNat_mul]
  rw [Int.natCast_emod, Int.natCast_mul]
  rfl
theorem U8_sub (a b : UInt8) : IntKind.u8.wrap (U8 a - U8 b) = U8 (a - b) := by
  apply U8_wrap_of
  have ha := U8_lt a
  have hb := U8_lt b
  have ha0 := U8_lo a
  have hb0 := U8_lo b
  unfold U8 at *
  rw [UInt8.toNat_sub]
  omega
theorem U8_shl (a : UInt8) (j : Nat) (hj : j < 8) : IntKind.u8.wrap (U8 a * 2 ^ j) = U8 (a <<< UInt8.ofNat j) := by
  apply U8_wrap_of
  unfold U8
  have hjj : (UInt8.ofNat j).toNat = j := by rw [UInt8.toNat_ofNat']; exact Nat.mod_eq_of_lt (by omega)
  rw [UInt8.toNat_shiftLeft, hjj, Nat.mod_eq_of_lt hj, Nat.shiftLeft_eq]
  rw [Int.natCast_emod, Int.natCast_mul, Int.natCast_pow]
  rfl
theorem U8_shr (a : UInt8) (j : Nat) (hj : j < 8) : U8 a / 2 ^ j = U8 (a >>> UInt8.ofNat j) := by
  unfold U8
  have hjj : (UInt8.ofNat j).toNat = j := by rw [UInt8.toNat_ofNat']; exact Nat.mod_eq_of_lt (by omega)
  rw [UInt8.toNat_shiftRight, hjj, Nat.mod_eq_of_lt hj, Nat.shiftRight_eq_div_pow]
  rw [Int.natCast_ediv, Int.natCast_pow]
  rfl


def U32 (a : UInt32) : Int := (a.toNat : Int)
theorem U32_fold (a : UInt32) : (a.toNat : Int) = U32 a := rfl
theorem U32_lo (a : UInt32) : 0 ≤ U32 a := by unfold U32; omega
theorem U32_lt (a : UInt32) : U32 a < 4294967296 := by unfold U32; have := a.toNat_lt; omega
theorem U32_inj {a b : UInt32} (h : U32 a = U32 b) : a = b := by unfold U32 at h; exact UInt32.toNat_inj.1 (by omega)
theorem U32_toNat (a : UInt32) : (U32 a).toNat = a.toNat := by unfold U32; omega
theorem U32_ofNat (x : Int) (h0 : 0 ≤ x) (h1 : x < 4294967296) : U32 (UInt32.ofNat x.toNat) = x := by
  unfold U32
  rw [UInt32.toNat_ofNat']
  have : x.toNat < 4294967296 := by omega
  rw [Nat.mod_eq_of_lt (by simpa using this)]
  omega
theorem U32_beq (a b : UInt32) : (U32 a == U32 b) = (a == b) := by
  rw [Bool.eq_iff_iff, beq_iff_eq, beq_iff_eq]
  exact ⟨U32_inj, fun h => by rw [h]⟩
theorem U32_le (a b : UInt32) : U32 a ≤ U32 b ↔ a ≤ b := by unfold U32; rw [UInt32.le_iff_toNat_le]; omega
theorem U32_lt' (a b : UInt32) : U32 a < U32 b ↔ a < b := by unfold U32; rw [UInt32.lt_iff_toNat_lt]; omega
theorem U32_ofInt (a : UInt32) : BitVec.ofInt 32 (U32 a) = a.toBitVec := by
  apply BitVec.eq_of_toNat_eq
  rw [BitVec.toNat_ofInt]
  have := a.toNat_lt
  show ((a.toNat : Int) % (2 ^ 32 : Nat)).toNat = a.toNat
  omega
theorem U32_wrap (a : UInt32) : IntKind.u32.wrap (U32 a) = U32 a := by
  have h0 := U32_lo a
  have h1 := U32_lt a
  simp only [IntKind.wrap, IntKind.bits, IntKind.signed]
  have e : ((2 : Int) ^ 32) = 4294967296 := by decide
  simp only [e]
  simp
  omega
theorem U32_wrap_of (x : Int) (y : UInt32) (h : x % 4294967296 = U32 y) : IntKind.u32.wrap x = U32 y := by
  simp only [IntKind.wrap, IntKind.bits, IntKind.signed]
  have e : ((2 : Int) ^ 32) = 4294967296 := by decide
  simp only [e]
  simpa using h
theorem U32_xor (a b : UInt32) : bits BinOp.xor IntKind.u32 (U32 a) (U32 b) = U32 (a ^^^ b) := by
  show IntKind.u32.wrap _ = _
  simp only [IntKind.bits, U32_ofInt]
  exact U32_wrap (a ^^^ b)
theorem U32_and (a b : UInt32) : bits BinOp.and IntKind.u32 (U32 a) (U32 b) = U32 (a &&& b) := by
  show IntKind.u32.wrap _ = _
  simp only [IntKind.bits, U32_ofInt]
  exact U32_wrap (a &&& b)
theorem U32_or (a b : UInt32) : bits BinOp.or IntKind.u32 (U32 a) (U32 b) = U32 (a ||| b) := by
  show IntKind.u32.wrap _ = _
  simp only [IntKind.bits, U32_ofInt]
  exact U32_wrap (a ||| b)
theorem U32_add (a b : UInt32) : IntKind.u32.wrap (U32 a + U32 b) = U32 (a + b) := by
  apply U32_wrap_of
  unfold U32
  rw [UInt32.toNat_add]
  omega
theorem U32_mul (a b : UInt32) : IntKind.u32.wrap (U32 a * U32 b) = U32 (a * b) := by
  apply U32_wrap_of
  unfold U32
  rw [UInt32.toNat_mul]
  rw [Int.natCast_emod, Int.natCast_mul]
  rfl
theorem U32_sub (a b : UInt32) : IntKind.u32.wrap (U32 a - U32 b) = U32 (a - b) := by
  apply U32_wrap_of
  have ha := U32_lt a
  have hb := U32_lt b
  have ha0 := U32_lo a
  have hb0 := U32_lo b
  unfold U32 at *
  rw [UInt32.toNat_sub]
  omega
theorem U32_shl (a : UInt32) (j : Nat) (hj : j < 32) : IntKind.u32.wrap (U32 a * 2 ^ j) = U32 (a <<< UInt32.ofNat j) := by
  apply U32_wrap_of
  unfold U32
  have hjj : (UInt32.ofNat j).toNat = j := by rw [UInt32.toNat_ofNat']; exact Nat.mod_eq_of_lt (by omega)
  rw [UInt32.toNat_shiftLeft, hjj, Nat.mod_eq_of_lt hj, Nat.shiftLeft_eq]
  rw [Int.natCast_emod, Int.natCast_mul, Int.natCast_pow]
  rfl
theorem U32_shr (a : UInt32) (j : Nat) (hj : j < 32) : U32 a / 2 ^ j = U32 (a >>> UInt32.ofNat j) := by
  unfold U32
  have hjj : (UInt32.ofNat j).toNat = j := by rw [UInt32.toNat_ofNat']; exact Nat.mod_eq_of_lt (by omega)
  rw [UInt32.toNat_shiftRight, hjj, Nat.mod_eq_of_lt hj, Nat.shiftRight_eq_div_pow]
  rw [Int.natCast_ediv, Int.natCast_pow]
  rfl


def U64 (a : UInt64) : Int := (a.toNat : Int)
theorem U64_fold (a : UInt64) : (a.toNat : Int) = U64 a := rfl
theorem U64_lo (a : UInt64) : 0 ≤ U64 a := by unfold U64; omega
theorem U64_lt (a : UInt64) : U64 a < 18446744073709551616 := by unfold U64; have := a.toNat_lt; omega
theorem U64_inj {a b : UInt64} (h : U64 a = U64 b) : a = b := by unfold U64 at h; exact UInt64.toNat_inj.1 (by omega)
theorem U64_toNat (a : UInt64) : (U64 a).toNat = a.toNat := by unfold U64; omega
theorem U64_ofNat (x : Int) (h0 : 0 ≤ x) (h1 : x < 18446744073709551616) : U64 (UInt64.ofNat x.toNat) = x := by
  unfold U64
  rw [UInt64.toNat_ofNat']
  have : x.toNat < 18446744073709551616 := by omega
  rw [Nat.mod_eq_of_lt (by simpa using this)]
  omega
theorem U64_beq (a b : UInt64) : (U64 a == U64 b) = (a == b) := by
  rw [Bool.eq_iff_iff, beq_iff_eq, beq_iff_eq]
  exact ⟨U64_inj, fun h => by rw [h]⟩
theorem U64_le (a b : UInt64) : U64 a ≤ U64 b ↔ a ≤ b := by unfold U64; rw [UInt64.le_iff_toNat_le]; omega
theorem U64_lt' (a b : UInt64) : U64 a < U64 b ↔ a < b := by unfold U64; rw [UInt64.lt_iff_toNat_lt]; omega
theorem U64_ofInt (a : UInt64) : BitVec.ofInt 64 (U64 a) = a.toBitVec := by
  apply BitVec.eq_of_toNat_eq
  rw [BitVec.toNat_ofInt]
  have := a.toNat_lt
  show ((a.toNat : Int) % (2 ^ 64 : Nat)).toNat = a.toNat
  omega
theorem U64_wrap (a : UInt64) : IntKind.u64.wrap (U64 a) = U64 a := by
  have h0 := U64_lo a
  have h1 := U64_lt a
  simp only [IntKind.wrap, IntKind.bits, IntKind.signed]
  have e : ((2 : Int) ^ 64) = 18446744073709551616 := by decide
  simp only [e]
  simp
  omega
theorem U64_wrap_of (x : Int) (y : UInt64) (h : x % 18446744073709551616 = U64 y) : IntKind.u64.wrap x = U64 y := by
  simp only [IntKind.wrap, IntKind.bits, IntKind.signed]
  have e : ((2 : Int) ^ 64) = 18446744073709551616 := by decide
  simp only [e]
  simpa using h
theorem U64_xor (a b : UInt64) : bits BinOp.xor IntKind.u64 (U64 a) (U64 b) = U64 (a ^^^ b) := by
  show IntKind.u64.wrap _ = _
  simp only [IntKind.bits, U64_ofInt]
  exact U64_wrap (a ^^^ b)
theorem U64_and (a b : UInt64) : bits BinOp.and IntKind.u64 (U64 a) (U64 b) = U64 (a &&& b) := by
  show IntKind.u64.wrap _ = _
  simp only [IntKind.bits, U64_ofInt]
  exact U64_wrap (a &&& b)
theorem U64_or (a b : UInt64) : bits BinOp.or IntKind.u64 (U64 a) (U64 b) = U64 (a ||| b) := by
  show IntKind.u64.wrap _ = _
  simp only [IntKind.bits, U64_ofInt]
  exact U64_wrap (a ||| b)
theorem U64_add (a b : UInt64) : IntKind.u64.wrap (U64 a + U64 b) = U64 (a + b) := by
  apply U64_wrap_of
  unfold U64
  rw [UInt64.toNat_add]
  omega
theorem U64_mul (a b : UInt64) : IntKind.u64.wrap (U64 a * U64 b) = U64 (a * b) := by
  apply U64_wrap_of
  unfold U64
  rw [UInt64.toNat_mul]
  rw [Int.natCast_emod, Int.natCast_mul]
  rfl
theorem U64_sub (a b : UInt64) : IntKind.u64.wrap (U64 a - U64 b) = U64 (a - b) := by
  apply U64_wrap_of
  have ha := U64_lt a
  have hb := U64_lt b
  have ha0 := U64_lo a
  have hb0 := U64_lo b
  unfold U64 at *
  rw [UInt64.toNat_sub]
  omega
theorem U64_shl (a : UInt64) (j : Nat) (hj : j < 64) : IntKind.u64.wrap (U64 a * 2 ^ j) = U64 (a <<< UInt64.ofNat j) := by
  apply U64_wrap_of
  unfold U64
  have hjj : (UInt64.ofNat j).toNat = j := by rw [UInt64.toNat_ofNat']; exact Nat.mod_eq_of_lt (by omega)
  rw [UInt64.toNat_shiftLeft, hjj, Nat.mod_eq_of_lt hj, Nat.shiftLeft_eq]
  rw [Int.natCast_emod, Int.natCast_mul, Int.natCast_pow]
  rfl
theorem U64_shr (a : UInt64) (j : Nat) (hj : j < 64) : U64 a / 2 ^ j = U64 (a >>> UInt64.ofNat j) := by
  unfold U64
  have hjj : (UInt64.ofNat j).toNat = j := by rw [UInt64.toNat_ofNat']; exact Nat.mod_eq_of_lt (by omega)
  rw [UInt64.toNat_shiftRight, hjj, Nat.mod_eq_of_lt hj, Nat.shiftRight_eq_div_pow]
  rw [Int.natCast_ediv, Int.natCast_pow]
  rfl


theorem wraps_i64 (n : Int) (h₀ : 0 ≤ n) (h₁ : n < 2 ^ 63) : IntKind.i64.wrap n = n := by
  simp only [IntKind.wrap, IntKind.bits, IntKind.signed]
  simp
  omega
theorem i64_mask (x : Int) (i : Nat) (hi : i ≤ 62) (h0 : 0 ≤ x) (h1 : x ≤ 9223372036854775807) : bits .and .i64 x (2 ^ i - 1) = x % 2 ^ i :=
  bits_mask .i64 63 (by decide) wraps_i64 i (by omega) x h0 (by omega)
theorem i64_and1 (x : Int) (h0 : 0 ≤ x) (h1 : x ≤ 9223372036854775807) : bits .and .i64 x 1 = x % 2 := i64_mask x 1 (by decide) h0 h1
theorem i64_and3 (x : Int) (h0 : 0 ≤ x) (h1 : x ≤ 9223372036854775807) : bits .and .i64 x 3 = x % 4 := i64_mask x 2 (by decide) h0 h1
theorem i64_and15 (x : Int) (h0 : 0 ≤ x) (h1 : x ≤ 9223372036854775807) : bits .and .i64 x 15 = x % 16 := i64_mask x 4 (by decide) h0 h1
theorem i64_and63 (x : Int) (h0 : 0 ≤ x) (h1 : x ≤ 9223372036854775807) : bits .and .i64 x 63 = x % 64 := i64_mask x 6 (by decide) h0 h1
theorem U8_twice (a : UInt8) : U8 a * (2 : Int) % (256 : Int) = U8 (a <<< 1) := by
  have := U8_shl a 1 (by decide)
  rw [IntKind.wrap_u8] at this
  exact this
theorem U32_of8 (a : UInt8) : U8 a = U32 a.toUInt32 := by unfold U8 U32; simp
theorem U64_of8 (a : UInt8) : U8 a = U64 a.toUInt64 := by unfold U8 U64; simp
theorem U8_of32 (a : UInt32) : IntKind.u8.wrap (U32 a) = U8 a.toUInt8 := by apply U8_wrap_of; unfold U32 U8; simp
theorem U8_of64 (a : UInt64) : IntKind.u8.wrap (U64 a) = U8 a.toUInt8 := by apply U8_wrap_of; unfold U64 U8; simp
end SW
end Go.Proofs.Ytieooonobjkglaa
