/- The reference's Mul over bytes, as a plain number. No condition; no program in sight. -/
import Derived.Test.YtieooonobjkglaaPBoxedx1
import Derived.Test.YtieooonobjkglaaPMixedx1
import Derived.Test.YtieooonobjkglaaQPure
import Derived.Test.YtieooonobjkglaaPTurnedx1
import Derived.Test.YtieooonobjkglaaQKeys
namespace Go.Proofs.Ytieooonobjkglaa
open Go.RowKit Go.Proofs.YtieooonobjkglaaW.PrintWords Go.Proofs.YtieooonobjkglaaW.PrintMore SW
namespace Rf
theorem wrap64_of {x : Int} (h0 : -9223372036854775808 ≤ x) (h1 : x ≤ 9223372036854775807) : wrap64 x = x := by unfold wrap64; omega
theorem xor_i64 (a b : Nat) (ha : a < 9223372036854775808) (hb : b < 9223372036854775808) : Go.bits .xor .i64 (a : Int) (b : Int) = ((a ^^^ b : Nat) : Int) := by
  have ea : (BitVec.ofInt 64 (a : Int)).toNat = a := by rw [BitVec.ofInt_natCast, BitVec.toNat_ofNat]; exact Nat.mod_eq_of_lt (by omega)
  have eb : (BitVec.ofInt 64 (b : Int)).toNat = b := by rw [BitVec.ofInt_natCast, BitVec.toNat_ofNat]; exact Nat.mod_eq_of_lt (by omega)
  have hx : a ^^^ b < 2 ^ 63 := Nat.xor_lt_two_pow (by omega) (by omega)
  show IntKind.i64.wrap ((BitVec.ofInt 64 (a : Int) ^^^ BitVec.ofInt 64 (b : Int)).toNat : Int) = _
  rw [BitVec.toNat_xor, ea, eb, IntKind.wrap_i64]
  omega
theorem and_i64_one (a : Nat) (ha : a < 9223372036854775808) : Go.bits .and .i64 (a : Int) 1 = ((a % 2 : Nat) : Int) := by
  have ea : (BitVec.ofInt 64 (a : Int)).toNat = a := by rw [BitVec.ofInt_natCast, BitVec.toNat_ofNat]; exact Nat.mod_eq_of_lt (by omega)
  have eb : (BitVec.ofInt 64 (1 : Int)).toNat = 1 := rfl
  show IntKind.i64.wrap ((BitVec.ofInt 64 (a : Int) &&& BitVec.ofInt 64 (1 : Int)).toNat : Int) = _
  rw [BitVec.toNat_and, ea, eb, Nat.and_one_is_mod, IntKind.wrap_i64]
  omega
theorem shr_nat (a i : Nat) (hi : i ≤ 63) : shr .i64 (a : Int) (i : Int) = ((a / 2 ^ i : Nat) : Int) := by
  unfold shr
  have : min ((i : Int).toNat) IntKind.i64.bits = i := by simp [IntKind.bits]; omega
  rw [this, Int.natCast_ediv, Int.natCast_pow]
  rfl
theorem w_nat (n : Nat) (h : n ≤ 4611686018427387904) : wrap64 (n : Int) = (n : Int) := wrap64_of (by omega) (by omega)
theorem w_add (a b : Nat) (h : a + b ≤ 4611686018427387904) : wrap64 ((a : Int) + (b : Int)) = ((a + b : Nat) : Int) := by rw [← Int.natCast_add]; exact w_nat _ h
theorem w_mul (a b : Nat) (h : a * b ≤ 4611686018427387904) : wrap64 ((a : Int) * (b : Int)) = ((a * b : Nat) : Int) := by rw [← Int.natCast_mul]; exact w_nat _ h
theorem w_sub (a b : Nat) (h : b ≤ a) (ha : a ≤ 4611686018427387904) : wrap64 ((a : Int) - (b : Int)) = ((a - b : Nat) : Int) := by rw [← Int.natCast_sub h]; exact w_nat _ (by omega)
theorem shl_nat (i : Nat) (hi : i ≤ 30) : shl .i64 1 (i : Int) = ((2 ^ i : Nat) : Int) := by
  have e : min ((i : Int).toNat) 64 = i := by omega
  have h : 2 ^ i ≤ 2 ^ 30 := Nat.pow_le_pow_right (by omega) hi
  have key : ∀ m, m = i → IntKind.i64.wrap (1 * 2 ^ m) = ((2 ^ i : Nat) : Int) := by
    intro m hm
    subst hm
    have e2 : (1 : Int) * 2 ^ m = ((2 ^ m : Nat) : Int) := by rw [Int.one_mul]; exact (Int.natCast_pow 2 m).symm
    generalize (1 : Int) * 2 ^ m = z at e2
    subst e2
    generalize 2 ^ m = p at h
    rw [IntKind.wrap_i64]
    omega
  exact key _ e
def mulStep (a b : Nat) (acc i : Nat) : Nat := if b / 2 ^ i % 2 = 1 then acc ^^^ (a * 2 ^ i) else acc
def redStep (acc i : Nat) : Nat := if acc / 2 ^ (i + 8) % 2 = 1 then acc ^^^ (283 * 2 ^ i) else acc
/-- The long product's first k lines. -/
def mulTo (a b : Nat) : Nat → Nat
  | 0 => 0
  | k + 1 => mulStep a b (mulTo a b k) k
/-- What is left of x when the powers from 8 + 6 on are gone, k of them. -/
def redTo (x : Nat) : Nat → Nat
  | 0 => x
  | k + 1 => redStep (redTo x k) (6 - k)
def mulN (a b : Nat) : Nat := redTo (mulTo a b 8) 7 % 256
theorem mulTo_lt (a b : Nat) (ha : a < 256) (k : Nat) (hk : k ≤ 8) : mulTo a b k < 2 ^ 16 := by
  induction k with
  | zero => simp [mulTo]
  | succ k ih =>
    rw [mulTo, mulStep]
    split
    · refine Nat.xor_lt_two_pow (ih (by omega)) ?_
      have : a * 2 ^ k < 2 ^ 8 * 2 ^ k := Nat.mul_lt_mul_of_pos_right ha (Nat.two_pow_pos k)
      rw [← Nat.pow_add] at this
      exact Nat.lt_of_lt_of_le this (Nat.pow_le_pow_right (by omega) (by omega))
    · exact ih (by omega)
theorem redTo_lt (x : Nat) (hx : x < 2 ^ 16) (k : Nat) (hk : k ≤ 7) : redTo x k < 2 ^ 16 := by
  induction k with
  | zero => exact hx
  | succ k ih =>
    rw [redTo, redStep]
    split
    · refine Nat.xor_lt_two_pow (ih (by omega)) ?_
      have : 2 ^ (6 - k) ≤ 2 ^ 6 := Nat.pow_le_pow_right (by omega) (by omega)
      omega
    · exact ih (by omega)
end Rf

namespace PBoxed
open Rf
theorem bit_nat (a i : Nat) (ha : a < 9223372036854775808) (hi : i ≤ 63) : saltusref05_Bit.f (a : Int) (i : Int) = some ((a / 2 ^ i % 2 : Nat) : Int) := by
  unfold saltusref05_Bit.f
  rw [if_pos (by omega), shr_nat _ _ hi, and_i64_one _ (Nat.lt_of_le_of_lt (Nat.div_le_self _ _) ha)]
theorem pow_nat (i : Nat) (hi : i ≤ 30) : saltusref05_pow.f (i : Int) = some ((2 ^ i : Nat) : Int) := by
  unfold saltusref05_pow.f
  rw [if_pos (by omega), shl_nat _ hi]
theorem red_ev (x : Nat) (hx : x < 2 ^ 16) (j : Nat) : ∀ k, k + j = 7 → Ev (fun n => saltusref05_Mul.l1 n (redTo x k : Int) ((14 - k : Nat) : Int)) ((redTo x 7 % 256 : Nat) : Int) := by
  induction j with
  | zero =>
    intro k hk
    obtain rfl : k = 7 := by omega
    refine Ev.step (f := fun _ => some (((redTo x 7 : Nat) : Int) % 256)) (fun n => ?_) ?_
    · simp only [saltusref05_Mul.l1]; rw [if_neg (by omega)]
    · exact Ev.now _
  | succ j ih =>
    intro k hk
    have hlt := redTo_lt x hx k (by omega)
    have hs : redTo x (k + 1) = redStep (redTo x k) (6 - k) := rfl
    have h14 : 14 - k = 6 - k + 8 := by omega
    have hp : 2 ^ (6 - k) ≤ 2 ^ 6 := Nat.pow_le_pow_right (by omega) (by omega)
    refine Ev.step (f := fun n => saltusref05_Mul.l1 n (redTo x (k + 1) : Int) ((14 - (k + 1) : Nat) : Int)) (fun n => ?_) (ih (k + 1) (by omega))
    simp only [saltusref05_Mul.l1]
    rw [if_pos (show ((14 - k : Nat) : Int) ≥ 8 by omega), show (1 : Int) = ((1 : Nat) : Int) from rfl, w_sub (14 - k) 1 (by omega) (by omega), show (8 : Int) = ((8 : Nat) : Int) from rfl, w_sub (14 - k) 8 (by omega) (by omega),
      bit_nat _ _ (by omega) (by omega), show 14 - k - 8 = 6 - k by omega, pow_nat _ (by omega), h14, show 6 - k + 8 - 1 = 14 - (k + 1) by omega, hs, redStep]
    simp only [Option.bind_some]
    rw [show (283 : Int) = ((283 : Nat) : Int) from rfl]
    generalize 2 ^ (6 - k) = p at hp
    rw [w_mul 283 p (by omega), xor_i64 _ _ (by omega) (by omega)]
    by_cases hb : redTo x k / 2 ^ (6 - k + 8) % 2 = 1
    · rw [if_pos (by rw [hb]), if_pos hb]
    · rw [if_neg (by intro e; exact hb (by exact_mod_cast e)), if_neg hb]
theorem mul_ev (a b : Nat) (ha : a < 256) (hb : b < 256) : Ev (fun n => saltusref05_Mul.f n (a : Int) (b : Int)) ((mulN a b : Nat) : Int) := by
  have key : ∀ j k, k + j = 8 → Ev (fun n => saltusref05_Mul.l0 n (a : Int) (b : Int) (mulTo a b k : Int) (k : Int)) ((mulN a b : Nat) : Int) := by
    intro j
    induction j with
    | zero =>
      intro k hk
      obtain rfl : k = 8 := by omega
      refine Ev.step (f := fun n => saltusref05_Mul.l1 n (mulTo a b 8 : Int) ((14 - 0 : Nat) : Int)) (fun n => ?_) ?_
      · simp only [saltusref05_Mul.l0]; rw [if_neg (by omega)]; rfl
      · exact red_ev (mulTo a b 8) (mulTo_lt a b ha 8 (by omega)) 7 0 rfl
    | succ j ih =>
      intro k hk
      have hlt := mulTo_lt a b ha k (by omega)
      have hs : mulTo a b (k + 1) = mulStep a b (mulTo a b k) k := rfl
      have hp : 2 ^ k ≤ 2 ^ 7 := Nat.pow_le_pow_right (by omega) (by omega)
      have hm : a * 2 ^ k ≤ 255 * 128 := Nat.mul_le_mul (by omega) hp
      refine Ev.step (f := fun n => saltusref05_Mul.l0 n (a : Int) (b : Int) (mulTo a b (k + 1) : Int) ((k + 1 : Nat) : Int)) (fun n => ?_) (ih (k + 1) (by omega))
      simp only [saltusref05_Mul.l0]
      rw [if_pos (show (k : Int) < 8 by omega), show ((k : Int) + 1) = (k : Int) + ((1 : Nat) : Int) from rfl, w_add k 1 (by omega), w_nat b (by omega), w_nat a (by omega), pow_nat _ (by omega), bit_nat _ _ (by omega) (by omega), hs, mulStep]
      simp only [Option.bind_some]
      generalize 2 ^ k = p at hp hm
      rw [w_mul a p (by omega), xor_i64 _ _ (by omega) (by omega)]
      by_cases hb : b / p % 2 = 1
      · rw [if_pos (by rw [hb]; rfl), if_pos hb]
      · rw [if_neg (by intro e; exact hb (by exact_mod_cast e)), if_neg hb]
  exact key 8 0 rfl
end PBoxed

namespace PMixed
open Rf
theorem bit_nat (a i : Nat) (ha : a < 9223372036854775808) (hi : i ≤ 63) : saltusref05_Bit.f (a : Int) (i : Int) = some ((a / 2 ^ i % 2 : Nat) : Int) := by
  unfold saltusref05_Bit.f
  rw [if_pos (by omega), shr_nat _ _ hi, and_i64_one _ (Nat.lt_of_le_of_lt (Nat.div_le_self _ _) ha)]
theorem pow_nat (i : Nat) (hi : i ≤ 30) : saltusref05_pow.f (i : Int) = some ((2 ^ i : Nat) : Int) := by
  unfold saltusref05_pow.f
  rw [if_pos (by omega), shl_nat _ hi]
theorem red_ev (x : Nat) (hx : x < 2 ^ 16) (j : Nat) : ∀ k, k + j = 7 → Ev (fun n => saltusref05_Mul.l1 n (redTo x k : Int) ((14 - k : Nat) : Int)) ((redTo x 7 % 256 : Nat) : Int) := by
  induction j with
  | zero =>
    intro k hk
    obtain rfl : k = 7 := by omega
    refine Ev.step (f := fun _ => some (((redTo x 7 : Nat) : Int) % 256)) (fun n => ?_) ?_
    · simp only [saltusref05_Mul.l1]; rw [if_neg (by omega)]
    · exact Ev.now _
  | succ j ih =>
    intro k hk
    have hlt := redTo_lt x hx k (by omega)
    have hs : redTo x (k + 1) = redStep (redTo x k) (6 - k) := rfl
    have h14 : 14 - k = 6 - k + 8 := by omega
    have hp : 2 ^ (6 - k) ≤ 2 ^ 6 := Nat.pow_le_pow_right (by omega) (by omega)
    refine Ev.step (f := fun n => saltusref05_Mul.l1 n (redTo x (k + 1) : Int) ((14 - (k + 1) : Nat) : Int)) (fun n => ?_) (ih (k + 1) (by omega))
    simp only [saltusref05_Mul.l1]
    rw [if_pos (show ((14 - k : Nat) : Int) ≥ 8 by omega), show (1 : Int) = ((1 : Nat) : Int) from rfl, w_sub (14 - k) 1 (by omega) (by omega), show (8 : Int) = ((8 : Nat) : Int) from rfl, w_sub (14 - k) 8 (by omega) (by omega),
      bit_nat _ _ (by omega) (by omega), show 14 - k - 8 = 6 - k by omega, pow_nat _ (by omega), h14, show 6 - k + 8 - 1 = 14 - (k + 1) by omega, hs, redStep]
    simp only [Option.bind_some]
    rw [show (283 : Int) = ((283 : Nat) : Int) from rfl]
    generalize 2 ^ (6 - k) = p at hp
    rw [w_mul 283 p (by omega), xor_i64 _ _ (by omega) (by omega)]
    by_cases hb : redTo x k / 2 ^ (6 - k + 8) % 2 = 1
    · rw [if_pos (by rw [hb]), if_pos hb]
    · rw [if_neg (by intro e; exact hb (by exact_mod_cast e)), if_neg hb]
theorem mul_ev (a b : Nat) (ha : a < 256) (hb : b < 256) : Ev (fun n => saltusref05_Mul.f n (a : Int) (b : Int)) ((mulN a b : Nat) : Int) := by
  have key : ∀ j k, k + j = 8 → Ev (fun n => saltusref05_Mul.l0 n (a : Int) (b : Int) (mulTo a b k : Int) (k : Int)) ((mulN a b : Nat) : Int) := by
    intro j
    induction j with
    | zero =>
      intro k hk
      obtain rfl : k = 8 := by omega
      refine Ev.step (f := fun n => saltusref05_Mul.l1 n (mulTo a b 8 : Int) ((14 - 0 : Nat) : Int)) (fun n => ?_) ?_
      · simp only [saltusref05_Mul.l0]; rw [if_neg (by omega)]; rfl
      · exact red_ev (mulTo a b 8) (mulTo_lt a b ha 8 (by omega)) 7 0 rfl
    | succ j ih =>
      intro k hk
      have hlt := mulTo_lt a b ha k (by omega)
      have hs : mulTo a b (k + 1) = mulStep a b (mulTo a b k) k := rfl
      have hp : 2 ^ k ≤ 2 ^ 7 := Nat.pow_le_pow_right (by omega) (by omega)
      have hm : a * 2 ^ k ≤ 255 * 128 := Nat.mul_le_mul (by omega) hp
      refine Ev.step (f := fun n => saltusref05_Mul.l0 n (a : Int) (b : Int) (mulTo a b (k + 1) : Int) ((k + 1 : Nat) : Int)) (fun n => ?_) (ih (k + 1) (by omega))
      simp only [saltusref05_Mul.l0]
      rw [if_pos (show (k : Int) < 8 by omega), show ((k : Int) + 1) = (k : Int) + ((1 : Nat) : Int) from rfl, w_add k 1 (by omega), w_nat b (by omega), w_nat a (by omega), pow_nat _ (by omega), bit_nat _ _ (by omega) (by omega), hs, mulStep]
      simp only [Option.bind_some]
      generalize 2 ^ k = p at hp hm
      rw [w_mul a p (by omega), xor_i64 _ _ (by omega) (by omega)]
      by_cases hb : b / p % 2 = 1
      · rw [if_pos (by rw [hb]; rfl), if_pos hb]
      · rw [if_neg (by intro e; exact hb (by exact_mod_cast e)), if_neg hb]
  exact key 8 0 rfl
end PMixed

end Go.Proofs.Ytieooonobjkglaa
namespace Go.Proofs.Ytieooonobjkglaa
open Go.RowKit Go.Proofs.YtieooonobjkglaaW.PrintWords Go.Proofs.YtieooonobjkglaaW.PrintMore SW
namespace Rf
set_option maxRecDepth 100000
def invT : List Nat := [0, 1, 141, 246, 203, 82, 123, 209, 232, 79, 41, 192, 176, 225, 229, 199, 116, 180, 170, 75, 153, 43, 96, 95, 88, 63, 253, 204, 255, 64, 238, 178, 58, 110, 90, 241, 85, 77, 168, 201, 193, 10, 152, 21, 48, 68, 162, 194, 44, 69, 146, 108, 243, 57, 102, 66, 242, 53, 32, 111, 119, 187, 89, 25, 29, 254, 55, 103, 45, 49, 245, 105, 167, 100, 171, 19, 84, 37, 233, 9, 237, 92, 5, 202, 76, 36, 135, 191, 24, 62, 34, 240, 81, 236, 97, 23, 22, 94, 175, 211, 73, 166, 54, 67, 244, 71, 145, 223, 51, 147, 33, 59, 121, 183, 151, 133, 16, 181, 186, 60, 182, 112, 208, 6, 161, 250, 129, 130, 131, 126, 127, 128, 150, 115, 190, 86, 155, 158, 149, 217, 247, 2, 185, 164, 222, 106, 50, 109, 216, 138, 132, 114, 42, 20, 159, 136, 249, 220, 137, 154, 251, 124, 46, 195, 143, 184, 101, 72, 38, 200, 18, 74, 206, 231, 210, 98, 12, 224, 31, 239, 17, 117, 120, 113, 165, 142, 118, 61, 189, 188, 134, 87, 11, 40, 47, 163, 218, 212, 228, 15, 169, 39, 83, 4, 27, 252, 172, 230, 122, 7, 174, 99, 197, 219, 226, 234, 148, 139, 196, 213, 157, 248, 144, 107, 177, 13, 214, 235, 198, 14, 207, 173, 8, 78, 215, 227, 93, 80, 30, 179, 91, 35, 56, 52, 104, 70, 3, 140, 221, 156, 125, 160, 205, 26, 65, 28]
/-- The same without a branch. -/
def mulF (a b : Nat) : Nat :=
  let r := a * (b % 2) ^^^ (a * 2) * (b / 2 % 2) ^^^ (a * 4) * (b / 4 % 2) ^^^ (a * 8) * (b / 8 % 2) ^^^ (a * 16) * (b / 16 % 2) ^^^ (a * 32) * (b / 32 % 2) ^^^ (a * 64) * (b / 64 % 2) ^^^ (a * 128) * (b / 128 % 2)
  let r := r ^^^ 18112 * (r / 16384 % 2)
  let r := r ^^^ 9056 * (r / 8192 % 2)
  let r := r ^^^ 4528 * (r / 4096 % 2)
  let r := r ^^^ 2264 * (r / 2048 % 2)
  let r := r ^^^ 1132 * (r / 1024 % 2)
  let r := r ^^^ 566 * (r / 512 % 2)
  let r := r ^^^ 283 * (r / 256 % 2)
  r % 256
theorem ite_bit (c acc t : Nat) : (if c % 2 = 1 then acc ^^^ t else acc) = acc ^^^ t * (c % 2) := by
  rcases Nat.mod_two_eq_zero_or_one c with h | h <;> rw [h] <;> simp
theorem mulN_eq (a b : Nat) : mulN a b = mulF a b := by
  unfold mulN mulF
  simp only [redTo, redStep, mulTo, mulStep, ite_bit]
  simp only [Nat.pow_zero, Nat.reducePow, Nat.reduceSub, Nat.reduceAdd, Nat.reduceMul, Nat.div_one, Nat.mul_one, Nat.zero_xor]
def invRow (v x : Nat) : Bool := (List.range 256).all fun y => (mulF x y == 1) == (x != 0 && y == v)
theorem inv_chk0 : (((invT.zipIdx).drop 0).take 16).all (fun p => invRow p.1 p.2) = true := by decide +kernel
theorem inv_chk1 : (((invT.zipIdx).drop 16).take 16).all (fun p => invRow p.1 p.2) = true := by decide +kernel
theorem inv_chk2 : (((invT.zipIdx).drop 32).take 16).all (fun p => invRow p.1 p.2) = true := by decide +kernel
theorem inv_chk3 : (((invT.zipIdx).drop 48).take 16).all (fun p => invRow p.1 p.2) = true := by decide +kernel
theorem inv_chk4 : (((invT.zipIdx).drop 64).take 16).all (fun p => invRow p.1 p.2) = true := by decide +kernel
theorem inv_chk5 : (((invT.zipIdx).drop 80).take 16).all (fun p => invRow p.1 p.2) = true := by decide +kernel
theorem inv_chk6 : (((invT.zipIdx).drop 96).take 16).all (fun p => invRow p.1 p.2) = true := by decide +kernel
theorem inv_chk7 : (((invT.zipIdx).drop 112).take 16).all (fun p => invRow p.1 p.2) = true := by decide +kernel
theorem inv_chk8 : (((invT.zipIdx).drop 128).take 16).all (fun p => invRow p.1 p.2) = true := by decide +kernel
theorem inv_chk9 : (((invT.zipIdx).drop 144).take 16).all (fun p => invRow p.1 p.2) = true := by decide +kernel
theorem inv_chk10 : (((invT.zipIdx).drop 160).take 16).all (fun p => invRow p.1 p.2) = true := by decide +kernel
theorem inv_chk11 : (((invT.zipIdx).drop 176).take 16).all (fun p => invRow p.1 p.2) = true := by decide +kernel
theorem inv_chk12 : (((invT.zipIdx).drop 192).take 16).all (fun p => invRow p.1 p.2) = true := by decide +kernel
theorem inv_chk13 : (((invT.zipIdx).drop 208).take 16).all (fun p => invRow p.1 p.2) = true := by decide +kernel
theorem inv_chk14 : (((invT.zipIdx).drop 224).take 16).all (fun p => invRow p.1 p.2) = true := by decide +kernel
theorem inv_chk15 : (((invT.zipIdx).drop 240).take 16).all (fun p => invRow p.1 p.2) = true := by decide +kernel
theorem rows_all (l : List Nat) (q : Nat → Nat → Bool) (i x : Nat) (h : ((l.zipIdx.drop (16 * i)).take 16).all (fun p => q p.1 p.2) = true) (hx : x < l.length) (hi : x / 16 = i) : q (l.getD x 0) x = true := by
  have hm : (l.getD x 0, x) ∈ ((l.zipIdx).drop (16 * i)).take 16 := by
    apply List.mem_of_getElem? (i := x - 16 * i)
    rw [List.getElem?_take_of_lt (by omega), List.getElem?_drop, List.getElem?_zipIdx, show 16 * i + (x - 16 * i) = x by omega, List.getD_eq_getElem?_getD, List.getElem?_eq_getElem hx]
    simp
  exact List.all_eq_true.1 h _ hm
theorem invT_len : invT.length = 256 := by decide +kernel
theorem inv_row (x : Nat) (hx : x < 256) : invRow (invT.getD x 0) x = true := by
  have h16 : x / 16 = 0 ∨ x / 16 = 1 ∨ x / 16 = 2 ∨ x / 16 = 3 ∨ x / 16 = 4 ∨ x / 16 = 5 ∨ x / 16 = 6 ∨ x / 16 = 7 ∨ x / 16 = 8 ∨ x / 16 = 9 ∨ x / 16 = 10 ∨ x / 16 = 11 ∨ x / 16 = 12 ∨ x / 16 = 13 ∨ x / 16 = 14 ∨ x / 16 = 15 := by omega
  rcases h16 with h | h | h | h | h | h | h | h | h | h | h | h | h | h | h | h
  · exact rows_all invT invRow 0 x inv_chk0 (by rw [invT_len]; exact hx) h
  · exact rows_all invT invRow 1 x inv_chk1 (by rw [invT_len]; exact hx) h
  · exact rows_all invT invRow 2 x inv_chk2 (by rw [invT_len]; exact hx) h
  · exact rows_all invT invRow 3 x inv_chk3 (by rw [invT_len]; exact hx) h
  · exact rows_all invT invRow 4 x inv_chk4 (by rw [invT_len]; exact hx) h
  · exact rows_all invT invRow 5 x inv_chk5 (by rw [invT_len]; exact hx) h
  · exact rows_all invT invRow 6 x inv_chk6 (by rw [invT_len]; exact hx) h
  · exact rows_all invT invRow 7 x inv_chk7 (by rw [invT_len]; exact hx) h
  · exact rows_all invT invRow 8 x inv_chk8 (by rw [invT_len]; exact hx) h
  · exact rows_all invT invRow 9 x inv_chk9 (by rw [invT_len]; exact hx) h
  · exact rows_all invT invRow 10 x inv_chk10 (by rw [invT_len]; exact hx) h
  · exact rows_all invT invRow 11 x inv_chk11 (by rw [invT_len]; exact hx) h
  · exact rows_all invT invRow 12 x inv_chk12 (by rw [invT_len]; exact hx) h
  · exact rows_all invT invRow 13 x inv_chk13 (by rw [invT_len]; exact hx) h
  · exact rows_all invT invRow 14 x inv_chk14 (by rw [invT_len]; exact hx) h
  · exact rows_all invT invRow 15 x inv_chk15 (by rw [invT_len]; exact hx) h
theorem inv_box : (invT.zipIdx.all fun (v, x) => (Sx.inv (UInt8.ofNat x)).toNat == v) = true := by decide +kernel
theorem one_chk : ((List.range 256).all fun x => (mulN x 1 == x) && (mulN x 2 == (Sx.tw (UInt8.ofNat x)).toNat) && (mulN x 3 == (Sx.tw (UInt8.ofNat x)).toNat ^^^ x)) = true := by decide +kernel
theorem all_range {p : Nat → Bool} {n : Nat} (h : (List.range n).all p = true) (x : Nat) (hx : x < n) : p x = true := List.all_eq_true.1 h x (List.mem_range.2 hx)
def invN (x : Nat) : Nat := invT.getD x 0
theorem invT_at (x : Nat) (hx : x < 256) : (invN x, x) ∈ invT.zipIdx := by
  rw [List.mem_zipIdx_iff_getElem?, invN, List.getD_eq_getElem?_getD, List.getElem?_eq_getElem (by rw [invT_len]; exact hx)]
  rfl
theorem inv_iff (x y : Nat) (hx : x < 256) (hy : y < 256) : mulN x y = 1 ↔ x ≠ 0 ∧ y = invN x := by
  have h2 := all_range (inv_row x hx) y hy
  have h3 : (mulF x y == 1) = (x != 0 && y == invN x) := by simpa [invN] using h2
  rw [mulN_eq, ← beq_iff_eq (a := mulF x y), h3]
  simp
theorem inv_sx (x : UInt8) : (Sx.inv x).toNat = invN x.toNat := by
  have h1 := List.all_eq_true.1 inv_box _ (invT_at x.toNat x.toNat_lt)
  have h2 : (Sx.inv (UInt8.ofNat x.toNat)).toNat = invN x.toNat := by simpa using h1
  rwa [UInt8.ofNat_toNat] at h2
theorem invN_lt (x : Nat) (hx : x < 256) : invN x < 256 := by
  have := inv_sx (UInt8.ofNat x)
  have e : (UInt8.ofNat x).toNat = x := by rw [UInt8.toNat_ofNat']; omega
  rw [e] at this
  rw [← this]; exact UInt8.toNat_lt _
def aff (y : UInt8) : UInt8 := y ^^^ Sx.rotl y 1 ^^^ Sx.rotl y 2 ^^^ Sx.rotl y 3 ^^^ Sx.rotl y 4 ^^^ 99
theorem box_aff (x : UInt8) : Sx.box x = aff (Sx.inv x) := rfl
theorem aff_chk : ((List.range 256).all fun y => PBoxed.saltusref05_Box.l0 9 (y : Int) 0 0 == some ((aff (UInt8.ofNat y)).toNat : Int)) = true := by decide +kernel
end Rf
end Go.Proofs.Ytieooonobjkglaa
namespace Go.Proofs.Ytieooonobjkglaa
open Go.RowKit Go.Proofs.YtieooonobjkglaaW.PrintWords Go.Proofs.YtieooonobjkglaaW.PrintMore SW
namespace Rf
/-- A byte's number, and a text's bytes as numbers. -/
def nums8 (l : List UInt8) : List Int := l.map fun x => (x.toNat : Int)
theorem str_nums (l : List UInt8) : strOfNums (nums8 l) = ⟨l.toArray⟩ := by
  unfold strOfNums nums8
  rw [List.map_map]
  have : ((fun n : Int => UInt8.ofNat n.toNat) ∘ fun x : UInt8 => (x.toNat : Int)) = id := funext fun x => by simp
  rw [this, List.map_id]
theorem bt_nat (s : ByteArray) (i : Nat) (hi : i < s.size) : bt s (i : Int) = ((s.data.toList.getD i 0).toNat : Int) := by
  unfold bt
  have : ((i : Int).toNat) < s.size := by omega
  rw [dif_pos this]
  congr 1
  have e : (i : Int).toNat = i := by omega
  simp only [e]
  rw [List.getD_eq_getElem?_getD, List.getElem?_eq_getElem (by simpa using hi)]
  rfl
theorem ba_size (l : List UInt8) : (⟨l.toArray⟩ : ByteArray).size = l.length := by simp [ByteArray.size]
theorem ba_of (s : ByteArray) : (⟨s.data.toList.toArray⟩ : ByteArray) = s := rfl
theorem bt_l (l : List UInt8) (i : Nat) (hi : i < l.length) : bt ⟨l.toArray⟩ (i : Int) = ((l.getD i 0).toNat : Int) := bt_nat ⟨l.toArray⟩ i (by rw [ba_size]; exact hi)
end Rf
namespace PBoxed
open Rf
theorem inv_ev (x : Nat) (hx : x < 256) : Ev (fun n => saltusref05_Inv.f n (x : Int)) ((invN x : Nat) : Int) := by
  have key : ∀ j y, y + j = 256 → (∀ z, z < y → 1 ≤ z → mulN x z ≠ 1) → 1 ≤ y → Ev (fun n => saltusref05_Inv.l0 n (x : Int) (y : Int)) ((invN x : Nat) : Int) := by
    intro j
    induction j with
    | zero =>
      intro y hy hno _
      obtain rfl : y = 256 := by omega
      have h0 : invN x = 0 := by
        by_cases hx0 : x = 0
        · subst hx0; decide +kernel
        · have h1 := (inv_iff x (invN x) hx (invN_lt x hx)).2 ⟨hx0, rfl⟩
          by_cases hz : 1 ≤ invN x
          · exact absurd h1 (hno _ (invN_lt x hx) hz)
          · omega
      refine Ev.step (f := fun _ => some 0) (fun n => ?_) ?_
      · simp only [saltusref05_Inv.l0]; rw [if_neg (by omega)]
      · rw [h0]; exact Ev.now _
    | succ j ih =>
      intro y hy hno h1
      refine Ev.step (f := fun n => (saltusref05_Mul.f n (x : Int) ((y : Int) % 256)).bind fun t => if t = 1 then some ((y : Int) % 256) else saltusref05_Inv.l0 n (x : Int) (wrap64 ((y : Int) + 1))) (fun n => ?_) ?_
      · simp only [saltusref05_Inv.l0]; rw [if_pos (by omega)]
      · have hm : ((y : Int) % 256) = (y : Int) := by omega
        rw [hm]
        refine Ev.bind (mul_ev x y hx (by omega)) ?_
        by_cases h : mulN x y = 1
        · have hi := (inv_iff x y hx (by omega)).1 h
          refine Ev.congr (f := fun _ => some (y : Int)) (fun n => by rw [if_pos (by rw [h]; rfl)]) ?_
          rw [← hi.2]; exact Ev.now _
        · refine Ev.congr (f := fun n => saltusref05_Inv.l0 n (x : Int) ((y + 1 : Nat) : Int)) (fun n => by
            rw [if_neg (by intro e; exact h (by exact_mod_cast e)), show ((y : Int) + 1) = (y : Int) + ((1 : Nat) : Int) from rfl, w_add y 1 (by omega)]) ?_
          refine ih (y + 1) (by omega) (fun z hz hz1 => ?_) (by omega)
          by_cases hzy : z = y
          · subst hzy; exact h
          · exact hno z (by omega) hz1
  exact key 255 1 rfl (fun z hz h1 => by omega) (by omega)
theorem box_ev (x : UInt8) : Ev (fun n => saltusref05_Box.f n (x.toNat : Int)) ((Sx.box x).toNat : Int) := by
  unfold saltusref05_Box.f
  refine Ev.bind (inv_ev x.toNat x.toNat_lt) ?_
  rw [← inv_sx, box_aff]
  generalize Sx.inv x = y
  have h1 := all_range aff_chk y.toNat y.toNat_lt
  have h2 : saltusref05_Box.l0 9 (y.toNat : Int) 0 0 = some ((aff y).toNat : Int) := by
    have h3 : saltusref05_Box.l0 9 (y.toNat : Int) 0 0 = some ((aff (UInt8.ofNat y.toNat)).toNat : Int) := by simpa using h1
    rwa [UInt8.ofNat_toNat] at h3
  have hy := y.toNat_lt
  rw [w_nat y.toNat (by omega)]
  exact Ev.of (fun k => saltusref05_Box.mono_l k _ _ _) h2
theorem boxed_ev (s : ByteArray) (hs : s.size ≤ 1000000) : Ev (fun n => saltusref06_Boxed.f n s) ⟨(s.data.toList.map Sx.box).toArray⟩ := by
  have hl : s.data.toList.length = s.size := by simp
  have key : ∀ j k, k + j = s.size → Ev (fun n => saltusref06_Boxed.l0 n s (nums8 ((s.data.toList.take k).map Sx.box)) (k : Int)) ⟨(s.data.toList.map Sx.box).toArray⟩ := by
    intro j
    induction j with
    | zero =>
      intro k hk
      obtain rfl : k = s.size := by omega
      refine Ev.step (f := fun _ => some (strOfNums (nums8 (s.data.toList.map Sx.box)))) (fun n => ?_) ?_
      · simp only [saltusref06_Boxed.l0, saltusref06_text.f]
        rw [if_neg (by omega), List.take_of_length_le (by omega)]
        rfl
      · rw [str_nums]; exact Ev.now _
    | succ j ih =>
      intro k hk
      have hks : k < s.data.toList.length := by omega
      have hlen : (nums8 ((s.data.toList.take k).map Sx.box)).length < 140737488355328 := by simp [nums8]; omega
      have hstep : nums8 ((s.data.toList.take (k + 1)).map Sx.box) = nums8 ((s.data.toList.take k).map Sx.box) ++ [((Sx.box (s.data.toList.getD k 0)).toNat : Int)] := by
        rw [List.take_add_one, List.getElem?_eq_getElem hks, List.getD_eq_getElem?_getD, List.getElem?_eq_getElem hks]
        simp [nums8]
      refine Ev.step (f := fun n => (saltusref05_Box.f n (bt s (k : Int))).bind fun t => saltusref06_Boxed.l0 n s (nums8 ((s.data.toList.take k).map Sx.box) ++ [t]) ((k + 1 : Nat) : Int)) (fun n => ?_) ?_
      · simp only [saltusref06_Boxed.l0]
        simp only [if_pos hlen]
        rw [if_pos (by omega), if_pos (by omega), show ((k : Int) + 1) = (k : Int) + ((1 : Nat) : Int) from rfl, w_add k 1 (by omega)]
      · rw [bt_nat s k (by omega)]
        refine Ev.bind (box_ev _) ?_
        rw [← hstep]
        exact ih (k + 1) (by omega)
  exact key s.size 0 (by omega)
end PBoxed
end Go.Proofs.Ytieooonobjkglaa
namespace Go.Proofs.Ytieooonobjkglaa
open Go.RowKit Go.Proofs.YtieooonobjkglaaW.PrintWords Go.Proofs.YtieooonobjkglaaW.PrintMore SW
namespace Rf
set_option maxRecDepth 100000
theorem xor_u8 (a b : UInt8) : Go.bits .xor .u8 (a.toNat : Int) (b.toNat : Int) = ((a ^^^ b).toNat : Int) := U8_xor a b
theorem tw_form : ((List.range 256).all fun x => Sx.tw (UInt8.ofNat x) == (UInt8.ofNat x <<< 1) ^^^ (if UInt8.ofNat x >>> 7 == 1 then 27 else 0)) = true := by decide +kernel
theorem top_chk : ((List.range 256).all fun x => UInt8.ofNat x >>> 7 == 0 || UInt8.ofNat x >>> 7 == 1) = true := by decide +kernel
theorem mul2_chk : ((List.range 256).all fun x => Sx.mul (UInt8.ofNat x) 2 == Sx.tw (UInt8.ofNat x)) = true := by decide +kernel
theorem of_nat (x : UInt8) : UInt8.ofNat x.toNat = x := UInt8.ofNat_toNat
theorem tw_eq (x : UInt8) : Sx.tw x = (x <<< 1) ^^^ (if x >>> 7 == 1 then 27 else 0) := by
  have := all_range tw_form x.toNat x.toNat_lt
  rw [of_nat] at this
  exact beq_iff_eq.1 this
theorem top_or (x : UInt8) : x >>> 7 = 0 ∨ x >>> 7 = 1 := by
  have := all_range top_chk x.toNat x.toNat_lt
  rw [of_nat] at this
  simpa using this
theorem mul2 (x : UInt8) : Sx.mul x 2 = Sx.tw x := by
  have := all_range mul2_chk x.toNat x.toNat_lt
  rw [of_nat] at this
  exact beq_iff_eq.1 this
theorem mulN_1 (x : UInt8) : mulN x.toNat 1 = x.toNat ∧ mulN x.toNat 2 = (Sx.tw x).toNat ∧ mulN x.toNat 3 = (Sx.tw x ^^^ x).toNat := by
  have := all_range one_chk x.toNat x.toNat_lt
  rw [of_nat] at this
  simp only [Bool.and_eq_true, beq_iff_eq] at this
  exact ⟨this.1.1, this.1.2, by rw [this.2, UInt8.toNat_xor]⟩
theorem shl_xor (x y : UInt8) : (x ^^^ y) <<< 1 = (x <<< 1) ^^^ (y <<< 1) := by
  apply UInt8.toBitVec_inj.1
  simp [BitVec.shiftLeft_xor_distrib]
theorem shr_xor (x y : UInt8) : (x ^^^ y) >>> 7 = (x >>> 7) ^^^ (y >>> 7) := by
  apply UInt8.toBitVec_inj.1
  simp [BitVec.ushiftRight_xor_distrib]
theorem x4 (a b c d : UInt8) : a ^^^ b ^^^ (c ^^^ d) = a ^^^ c ^^^ (b ^^^ d) := by
  rw [UInt8.xor_assoc, ← UInt8.xor_assoc b, UInt8.xor_comm b c, UInt8.xor_assoc c, ← UInt8.xor_assoc]
theorem tw_xor (x y : UInt8) : Sx.tw (x ^^^ y) = Sx.tw x ^^^ Sx.tw y := by
  rw [tw_eq, tw_eq, tw_eq, shl_xor, shr_xor, x4]
  congr 1
  rcases top_or x with h | h <;> rcases top_or y with k | k <;> rw [h, k] <;> decide
def mf (f : Nat) (x : UInt8) : UInt8 := if f = 2 then Sx.tw x else if f = 3 then Sx.tw x ^^^ x else x
def fac (r k : Nat) : Nat := if r = k then 2 else if (r + 1) % 4 = k then 3 else 1
theorem mulN_fac (x : UInt8) (r k : Nat) : mulN x.toNat (fac r k) = (mf (fac r k) x).toNat := by
  unfold fac
  split
  · exact (mulN_1 x).2.1
  · split
    · exact (mulN_1 x).2.2
    · exact (mulN_1 x).1
/-- A column's sum, k of its lines. -/
def colTo (l : List UInt8) (c r : Nat) : Nat → UInt8
  | 0 => 0
  | k + 1 => colTo l c r k ^^^ mf (fac r k) (l.getD (4 * c + k) 0)
theorem bool_ext8 {x y : UInt8} (h : ∀ i, x.toBitVec.getLsbD i = y.toBitVec.getLsbD i) : x = y := UInt8.toBitVec_inj.1 (BitVec.eq_of_getLsbD_eq fun i _ => h i)
theorem col_mix (l : List UInt8) (c r : Nat) (hr : r < 4) : colTo l c r 4 = Sx.mix1 l (4 * c + r) := by
  have h1 : (4 * c + r) / 4 * 4 = 4 * c := by omega
  have h2 : (4 * c + r) % 4 = r := by omega
  unfold Sx.mix1 Sx.all4
  rw [h1, h2, mul2, tw_xor]
  match r, hr with
  | 0, _ =>
    show 0 ^^^ Sx.tw (l.getD (4 * c) 0) ^^^ (Sx.tw (l.getD (4 * c + 1) 0) ^^^ l.getD (4 * c + 1) 0) ^^^ l.getD (4 * c + 2) 0 ^^^ l.getD (4 * c + 3) 0 = l.getD (4 * c) 0 ^^^ (l.getD (4 * c) 0 ^^^ l.getD (4 * c + 1) 0 ^^^ l.getD (4 * c + 2) 0 ^^^ l.getD (4 * c + 3) 0 ^^^ (Sx.tw (l.getD (4 * c) 0) ^^^ Sx.tw (l.getD (4 * c + 1) 0)))
    generalize Sx.tw (l.getD (4 * c) 0) = t0
    generalize Sx.tw (l.getD (4 * c + 1) 0) = t1
    generalize l.getD (4 * c) 0 = a
    generalize l.getD (4 * c + 1) 0 = b
    generalize l.getD (4 * c + 2) 0 = d
    generalize l.getD (4 * c + 3) 0 = e
    refine bool_ext8 fun i => ?_
    simp only [UInt8.toBitVec_xor, BitVec.getLsbD_xor, UInt8.toBitVec_ofNat, BitVec.getLsbD_zero]
    cases a.toBitVec.getLsbD i <;> cases b.toBitVec.getLsbD i <;> cases d.toBitVec.getLsbD i <;> cases e.toBitVec.getLsbD i <;> cases t0.toBitVec.getLsbD i <;> cases t1.toBitVec.getLsbD i <;> simp
  | 1, _ =>
    show 0 ^^^ l.getD (4 * c) 0 ^^^ Sx.tw (l.getD (4 * c + 1) 0) ^^^ (Sx.tw (l.getD (4 * c + 2) 0) ^^^ l.getD (4 * c + 2) 0) ^^^ l.getD (4 * c + 3) 0 = l.getD (4 * c + 1) 0 ^^^ (l.getD (4 * c) 0 ^^^ l.getD (4 * c + 1) 0 ^^^ l.getD (4 * c + 2) 0 ^^^ l.getD (4 * c + 3) 0 ^^^ (Sx.tw (l.getD (4 * c + 1) 0) ^^^ Sx.tw (l.getD (4 * c + 2) 0)))
    generalize Sx.tw (l.getD (4 * c + 1) 0) = t0
    generalize Sx.tw (l.getD (4 * c + 2) 0) = t1
    generalize l.getD (4 * c) 0 = a
    generalize l.getD (4 * c + 1) 0 = b
    generalize l.getD (4 * c + 2) 0 = d
    generalize l.getD (4 * c + 3) 0 = e
    refine bool_ext8 fun i => ?_
    simp only [UInt8.toBitVec_xor, BitVec.getLsbD_xor, UInt8.toBitVec_ofNat, BitVec.getLsbD_zero]
    cases a.toBitVec.getLsbD i <;> cases b.toBitVec.getLsbD i <;> cases d.toBitVec.getLsbD i <;> cases e.toBitVec.getLsbD i <;> cases t0.toBitVec.getLsbD i <;> cases t1.toBitVec.getLsbD i <;> simp
  | 2, _ =>
    show 0 ^^^ l.getD (4 * c) 0 ^^^ l.getD (4 * c + 1) 0 ^^^ Sx.tw (l.getD (4 * c + 2) 0) ^^^ (Sx.tw (l.getD (4 * c + 3) 0) ^^^ l.getD (4 * c + 3) 0) = l.getD (4 * c + 2) 0 ^^^ (l.getD (4 * c) 0 ^^^ l.getD (4 * c + 1) 0 ^^^ l.getD (4 * c + 2) 0 ^^^ l.getD (4 * c + 3) 0 ^^^ (Sx.tw (l.getD (4 * c + 2) 0) ^^^ Sx.tw (l.getD (4 * c + 3) 0)))
    generalize Sx.tw (l.getD (4 * c + 2) 0) = t0
    generalize Sx.tw (l.getD (4 * c + 3) 0) = t1
    generalize l.getD (4 * c) 0 = a
    generalize l.getD (4 * c + 1) 0 = b
    generalize l.getD (4 * c + 2) 0 = d
    generalize l.getD (4 * c + 3) 0 = e
    refine bool_ext8 fun i => ?_
    simp only [UInt8.toBitVec_xor, BitVec.getLsbD_xor, UInt8.toBitVec_ofNat, BitVec.getLsbD_zero]
    cases a.toBitVec.getLsbD i <;> cases b.toBitVec.getLsbD i <;> cases d.toBitVec.getLsbD i <;> cases e.toBitVec.getLsbD i <;> cases t0.toBitVec.getLsbD i <;> cases t1.toBitVec.getLsbD i <;> simp
  | 3, _ =>
    show 0 ^^^ (Sx.tw (l.getD (4 * c) 0) ^^^ l.getD (4 * c) 0) ^^^ l.getD (4 * c + 1) 0 ^^^ l.getD (4 * c + 2) 0 ^^^ Sx.tw (l.getD (4 * c + 3) 0) = l.getD (4 * c + 3) 0 ^^^ (l.getD (4 * c) 0 ^^^ l.getD (4 * c + 1) 0 ^^^ l.getD (4 * c + 2) 0 ^^^ l.getD (4 * c + 3) 0 ^^^ (Sx.tw (l.getD (4 * c + 3) 0) ^^^ Sx.tw (l.getD (4 * c) 0)))
    generalize Sx.tw (l.getD (4 * c + 3) 0) = t0
    generalize Sx.tw (l.getD (4 * c) 0) = t1
    generalize l.getD (4 * c) 0 = a
    generalize l.getD (4 * c + 1) 0 = b
    generalize l.getD (4 * c + 2) 0 = d
    generalize l.getD (4 * c + 3) 0 = e
    refine bool_ext8 fun i => ?_
    simp only [UInt8.toBitVec_xor, BitVec.getLsbD_xor, UInt8.toBitVec_ofNat, BitVec.getLsbD_zero]
    cases a.toBitVec.getLsbD i <;> cases b.toBitVec.getLsbD i <;> cases d.toBitVec.getLsbD i <;> cases e.toBitVec.getLsbD i <;> cases t0.toBitVec.getLsbD i <;> cases t1.toBitVec.getLsbD i <;> simp
end Rf
namespace PMixed
open Rf
theorem factor_nat (r k : Nat) (hr : r < 4) (hk : k < 4) : saltusref06_factor.f (r : Int) (k : Int) = some ((fac r k : Nat) : Int) := by
  match r, k, hr, hk with
  | 0, 0, _, _ | 0, 1, _, _ | 0, 2, _, _ | 0, 3, _, _ | 1, 0, _, _ | 1, 1, _, _ | 1, 2, _, _ | 1, 3, _, _ | 2, 0, _, _ | 2, 1, _, _ | 2, 2, _, _ | 2, 3, _, _ | 3, 0, _, _ | 3, 1, _, _ | 3, 2, _, _ | 3, 3, _, _ => decide +kernel
theorem fac_lt (r k : Nat) : fac r k < 256 := by unfold fac; split; omega; split <;> omega
theorem col_ev (s : ByteArray) (hs : s.size = 16) (x3 : List Int) (c r : Nat) (hc : c < 4) (hr : r < 4) (hx : x3.length ≤ 16) (R : ByteArray)
    (hR : Ev (fun n => saltusref06_Mixed.l1 n s (x3 ++ [((Sx.mix1 s.data.toList (4 * c + r)).toNat : Int)]) (c : Int) ((r + 1 : Nat) : Int)) R) :
    ∀ j k, k + j = 4 → Ev (fun n => saltusref06_Mixed.l2 n s x3 (c : Int) (r : Int) ((colTo s.data.toList c r k).toNat : Int) (k : Int)) R := by
  intro j
  induction j with
  | zero =>
    intro k hk
    obtain rfl : k = 4 := by omega
    refine Ev.step (f := fun n => saltusref06_Mixed.l1 n s (x3 ++ [((Sx.mix1 s.data.toList (4 * c + r)).toNat : Int)]) (c : Int) ((r + 1 : Nat) : Int)) (fun n => ?_) hR
    simp only [saltusref06_Mixed.l2]
    rw [if_neg (by omega), if_pos (by omega), show ((r : Int) + 1) = (r : Int) + ((1 : Nat) : Int) from rfl, w_add r 1 (by omega), col_mix _ _ _ hr]
  | succ j ih =>
    intro k hk
    refine Ev.step (f := fun n => (saltusref05_Mul.f n ((s.data.toList.getD (4 * c + k) 0).toNat : Int) ((fac r k : Nat) : Int)).bind fun t => saltusref06_Mixed.l2 n s x3 (c : Int) (r : Int) (Go.bits .xor .u8 ((colTo s.data.toList c r k).toNat : Int) t) ((k + 1 : Nat) : Int)) (fun n => ?_) ?_
    · simp only [saltusref06_Mixed.l2]
      rw [if_pos (by omega), show (4 : Int) = ((4 : Nat) : Int) from rfl, w_mul 4 c (by omega), w_add (4 * c) k (by omega), if_pos (by omega), if_pos (by omega), factor_nat r k hr (by omega), bt_nat s _ (by omega), show ((k : Int) + 1) = (k : Int) + ((1 : Nat) : Int) from rfl, w_add k 1 (by omega)]
      rfl
    · refine Ev.bind (mul_ev _ _ (UInt8.toNat_lt _) (fac_lt r k)) ?_
      rw [mulN_fac, xor_u8]
      exact ih (k + 1) (by omega)
theorem mixed_ev (s : ByteArray) (hs : s.size = 16) : Ev (fun n => saltusref06_Mixed.f n s) ⟨(Sx.mixed s.data.toList).toArray⟩ := by
  have hT : Sx.mixed s.data.toList = (List.range 16).map (Sx.mix1 s.data.toList) := rfl
  have hn : ∀ k, nums8 ((List.range (k + 1)).map (Sx.mix1 s.data.toList)) = nums8 ((List.range k).map (Sx.mix1 s.data.toList)) ++ [((Sx.mix1 s.data.toList k).toNat : Int)] := fun k => by
    rw [List.range_succ]; simp [nums8]
  have key : ∀ j c r, 4 * c + r + j = 16 → c < 4 → r ≤ 4 → Ev (fun n => saltusref06_Mixed.l1 n s (nums8 ((List.range (4 * c + r)).map (Sx.mix1 s.data.toList))) (c : Int) (r : Int)) ⟨(Sx.mixed s.data.toList).toArray⟩ := by
    intro j
    induction j with
    | zero =>
      intro c r hj hc hr
      obtain rfl : c = 3 := by omega
      obtain rfl : r = 4 := by omega
      refine Ev.step (f := fun n => saltusref06_Mixed.l0 n s (nums8 (Sx.mixed s.data.toList)) ((3 + 1 : Nat) : Int)) (fun n => ?_) ?_
      · simp only [saltusref06_Mixed.l1]; rw [if_neg (by omega), show (((3 : Nat) : Int) + 1) = ((3 : Nat) : Int) + ((1 : Nat) : Int) from rfl, w_add 3 1 (by omega)]; rfl
      · refine Ev.step (f := fun _ => some (strOfNums (nums8 (Sx.mixed s.data.toList)))) (fun n => ?_) ?_
        · simp only [saltusref06_Mixed.l0, saltusref06_text.f]; rw [if_neg (by omega)]; rfl
        · rw [str_nums]; exact Ev.now _
    | succ j ih =>
      intro c r hj hc hr
      have inner : ∀ c r, 4 * c + r + (j + 1) = 16 → c < 4 → r < 4 → Ev (fun n => saltusref06_Mixed.l1 n s (nums8 ((List.range (4 * c + r)).map (Sx.mix1 s.data.toList))) (c : Int) (r : Int)) ⟨(Sx.mixed s.data.toList).toArray⟩ := by
        intro c r hj hc hr
        refine Ev.step (f := fun n => saltusref06_Mixed.l2 n s (nums8 ((List.range (4 * c + r)).map (Sx.mix1 s.data.toList))) (c : Int) (r : Int) ((colTo s.data.toList c r 0).toNat : Int) ((0 : Nat) : Int)) (fun n => ?_) ?_
        · simp only [saltusref06_Mixed.l1]; rw [if_pos (by omega)]; rfl
        · refine col_ev s hs _ c r hc hr (by simp [nums8]; omega) _ ?_ 4 0 rfl
          rw [← hn]
          exact ih c (r + 1) (by omega) hc (by omega)
      by_cases h4 : r < 4
      · exact inner c r hj hc h4
      · obtain rfl : r = 4 := by omega
        refine Ev.step (f := fun n => saltusref06_Mixed.l0 n s (nums8 ((List.range (4 * (c + 1) + 0)).map (Sx.mix1 s.data.toList))) ((c + 1 : Nat) : Int)) (fun n => ?_) ?_
        · simp only [saltusref06_Mixed.l1]
          rw [if_neg (by omega), show ((c : Int) + 1) = (c : Int) + ((1 : Nat) : Int) from rfl, w_add c 1 (by omega)]
          rfl
        · refine Ev.step (f := fun n => saltusref06_Mixed.l1 n s (nums8 ((List.range (4 * (c + 1) + 0)).map (Sx.mix1 s.data.toList))) ((c + 1 : Nat) : Int) ((0 : Nat) : Int)) (fun n => ?_) (inner (c + 1) 0 (by omega) (by omega) (by omega))
          simp only [saltusref06_Mixed.l0]; rw [if_pos (by omega)]; rfl
  refine Ev.step (g := fun n => saltusref06_Mixed.l0 n s [] 0) (f := fun n => saltusref06_Mixed.l1 n s (nums8 ((List.range (4 * 0 + 0)).map (Sx.mix1 s.data.toList))) ((0 : Nat) : Int) ((0 : Nat) : Int)) (fun n => ?_) (key 16 0 0 rfl (by omega) (by omega))
  simp only [saltusref06_Mixed.l0]; rw [if_pos (by omega)]; rfl
end PMixed
namespace PTurned
open Rf
theorem turned_ev (s : ByteArray) (hs : s.size = 16) : Ev (fun n => saltusref06_Turned.f n s) ⟨(Sx.turned s.data.toList).toArray⟩ := by
  have hs' : ∃ l : List UInt8, s = ⟨l.toArray⟩ ∧ l.length = 16 := ⟨s.data.toList, rfl, by simpa using hs⟩
  obtain ⟨l, rfl, hl⟩ := hs'
  let T : Nat → UInt8 := fun i => l.getD ((i + 4 * (i % 4)) % 16) 0
  have hn : ∀ k, nums8 ((List.range (k + 1)).map T) = nums8 ((List.range k).map T) ++ [((T k).toNat : Int)] := fun k => by
    rw [List.range_succ]; simp [nums8]
  have key : ∀ j c r, 4 * c + r + j = 16 → c < 4 → r ≤ 4 → Ev (fun n => saltusref06_Turned.l1 n ⟨l.toArray⟩ (nums8 ((List.range (4 * c + r)).map T)) (c : Int) (r : Int)) ⟨(Sx.turned l).toArray⟩ := by
    intro j
    induction j with
    | zero =>
      intro c r hj hc hr
      obtain rfl : c = 3 := by omega
      obtain rfl : r = 4 := by omega
      refine Ev.step (f := fun n => saltusref06_Turned.l0 n ⟨l.toArray⟩ (nums8 (Sx.turned l)) ((3 + 1 : Nat) : Int)) (fun n => ?_) ?_
      · simp only [saltusref06_Turned.l1]; rw [if_neg (by omega), show (((3 : Nat) : Int) + 1) = ((3 : Nat) : Int) + ((1 : Nat) : Int) from rfl, w_add 3 1 (by omega)]; rfl
      · refine Ev.step (f := fun _ => some (strOfNums (nums8 (Sx.turned l)))) (fun n => ?_) ?_
        · simp only [saltusref06_Turned.l0, saltusref06_text.f]; rw [if_neg (by omega)]; rfl
        · rw [str_nums]; exact Ev.now _
    | succ j ih =>
      intro c r hj hc hr
      have inner : ∀ c r, 4 * c + r + (j + 1) = 16 → c < 4 → r < 4 → Ev (fun n => saltusref06_Turned.l1 n ⟨l.toArray⟩ (nums8 ((List.range (4 * c + r)).map T)) (c : Int) (r : Int)) ⟨(Sx.turned l).toArray⟩ := by
        intro c r hj hc hr
        have hT : T (4 * c + r) = l.getD (4 * ((c + r) % 4) + r) 0 := by
          show l.getD ((4 * c + r + 4 * ((4 * c + r) % 4)) % 16) 0 = _
          congr 1; omega
        have hm : Int.tmod (wrap64 ((c : Int) + (r : Int))) 4 = (((c + r) % 4 : Nat) : Int) := by
          rw [w_add c r (by omega), Int.tmod_eq_emod_of_nonneg (by omega)]; omega
        refine Ev.step (f := fun n => saltusref06_Turned.l1 n ⟨l.toArray⟩ (nums8 ((List.range (4 * c + (r + 1))).map T)) (c : Int) ((r + 1 : Nat) : Int)) (fun n => ?_) (ih c (r + 1) (by omega) hc (by omega))
        simp only [saltusref06_Turned.l1]
        rw [if_pos (show (r : Int) < 4 by omega), hm, show (4 : Int) = ((4 : Nat) : Int) from rfl, w_mul 4 _ (by omega), w_add _ r (by omega), if_pos (by omega), if_pos (by rw [ba_size]; omega), if_pos (by simp [nums8]; omega), bt_l l _ (by omega), ← hT,
          show ((r : Int) + 1) = (r : Int) + ((1 : Nat) : Int) from rfl, w_add r 1 (by omega), ← hn]
        rfl
      by_cases h4 : r < 4
      · exact inner c r hj hc h4
      · obtain rfl : r = 4 := by omega
        refine Ev.step (f := fun n => saltusref06_Turned.l0 n ⟨l.toArray⟩ (nums8 ((List.range (4 * (c + 1) + 0)).map T)) ((c + 1 : Nat) : Int)) (fun n => ?_) ?_
        · simp only [saltusref06_Turned.l1]
          rw [if_neg (by omega), show ((c : Int) + 1) = (c : Int) + ((1 : Nat) : Int) from rfl, w_add c 1 (by omega)]
          rfl
        · refine Ev.step (f := fun n => saltusref06_Turned.l1 n ⟨l.toArray⟩ (nums8 ((List.range (4 * (c + 1) + 0)).map T)) ((c + 1 : Nat) : Int) ((0 : Nat) : Int)) (fun n => ?_) (inner (c + 1) 0 (by omega) (by omega) (by omega))
          simp only [saltusref06_Turned.l0]; rw [if_pos (by omega)]; rfl
  refine Ev.step (g := fun n => saltusref06_Turned.l0 n ⟨l.toArray⟩ [] 0) (f := fun n => saltusref06_Turned.l1 n ⟨l.toArray⟩ (nums8 ((List.range (4 * 0 + 0)).map T)) ((0 : Nat) : Int) ((0 : Nat) : Int)) (fun n => ?_) (key 16 0 0 rfl (by omega) (by omega))
  simp only [saltusref06_Turned.l0]; rw [if_pos (by omega)]; rfl
end PTurned
end Go.Proofs.Ytieooonobjkglaa
