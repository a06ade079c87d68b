/- The contracts of package field: each call gives what the plain function gives, and leaves the world as it was. No condition. -/
import Derived.Test.YtieooonobjkglaaProg
import Derived.Test.YtieooonobjkglaaQPure
import Derived.Lib.Hide
import Derived.Laws.BitsLemmas
namespace Go.Proofs.Ytieooonobjkglaa
open Go Go.Proofs Go.RowKit SW
attribute [local go_sem] U8_xor U8_or U8_twice U8_fold
set_option maxRecDepth 20000

theorem twice_any (a : UInt8) (w : World) : Calls Try.prog 127 #[.int .u8 (U8 a)] w fun e w' => e = .returned (.int .u8 (U8 (Sx.tw a))) ∧ w = w' := by
  have h27 : ∀ a : UInt8, bits BinOp.xor IntKind.u8 (U8 a) 27 = U8 (a ^^^ 27) := fun a => U8_xor a 27
  go_enter Try.func127, Try.ntmps127
  go_wp2
  · have h : U8 128 ≤ U8 a := by assumption
    go_ret
    refine ⟨?_, rfl⟩
    simp [Sx.tw, (U8_le _ _).1 h]
  · have h : U8 a < U8 128 := by assumption
    go_ret
    refine ⟨?_, rfl⟩
    have h' : ¬ (128 : UInt8) ≤ a := by rw [← U8_le]; omega
    simp [Sx.tw, h']
    exact U8_twice a

theorem bit8 (a : UInt8) (k : Nat) (h : k < 8) : (bits BinOp.and IntKind.u8 (U8 a / 2 ^ k) 1 == 1) = ((a >>> (UInt8.ofNat k)) &&& 1 == 1) := by
  rw [U8_shr a k h]
  exact (congrArg (· == (1 : Int)) (U8_and (a >>> UInt8.ofNat k) 1)).trans (U8_beq _ 1)

theorem mul_any (a b : UInt8) (w : World) : Calls Try.prog 98 #[.int .u8 (U8 a), .int .u8 (U8 b)] w fun e w' => e = .returned (.int .u8 (U8 (Sx.mul a b))) ∧ w = w' := by
  go_enter Try.func98, Try.ntmps98
  go_wp2
  go_loop [0, 5, 7] (fun x o i => ∃ k : Nat, k ≤ 8 ∧ i = .int .i64 k ∧ x = .int .u8 (U8 (Sx.mulL b a k).1) ∧ o = .int .u8 (U8 (Sx.mulL b a k).2)) (fun _ _ i => 8 - (intOf i).toNat)
  case atStart => exact ⟨0, by omega, rfl, rfl, rfl⟩
  case round =>
    obtain ⟨k, hk, rfl, rfl, rfl⟩ := hrel
    by_cases hlt : k < 8
    · have hb := bit8 b k hlt
      have hs : Sx.mulL b a (k + 1) = (Sx.tw (Sx.mulL b a k).1, if (b >>> UInt8.ofNat k) &&& 1 == 1 then (Sx.mulL b a k).2 ^^^ (Sx.mulL b a k).1 else (Sx.mulL b a k).2) := rfl
      have HS := Lib.hid hs
      clear hs
      cases hc : ((b >>> (UInt8.ofNat k)) &&& 1 == 1)
      all_goals
        rw [hc] at hb
        have HC := Lib.hid hc
        clear hc
        go_wp2_with (go_at_call 127; refine (twice_any _ _).mono ?_; rintro e w' ⟨rfl, rfl⟩)
        go_round
        case rel => exact ⟨k + 1, by omega, by go_num, by rw [HS.out], by rw [HS.out]; simp [HC.out]⟩
        case measure => simp [intOf]; omega
    · obtain rfl : k = 8 := by omega
      go_wp2
      go_ret
      exact ⟨rfl, rfl⟩

theorem pow_any (a : UInt8) (n : Nat) (w : World) (hn : n ≤ 9223372036854775807) : Calls Try.prog 97 #[.int .u8 (U8 a), .int .i64 n] w fun e w' => e = .returned (.int .u8 (U8 (Sx.pow a n))) ∧ w = w' := by
  go_enter Try.func97, Try.ntmps97
  go_wp2
  go_loop [0, 1, 5] (fun x m o => ∃ (k : Nat) (xa xo : UInt8), k ≤ 9223372036854775807 ∧ m = .int .i64 k ∧ x = .int .u8 (U8 xa) ∧ o = .int .u8 (U8 xo) ∧ Hid (Sx.powL k xo xa k = Sx.pow a n)) (fun _ m _ => (intOf m).toNat)
  case atStart => exact ⟨n, a, 1, hn, rfl, rfl, rfl, rfl⟩
  case round =>
    obtain ⟨k, xa, xo, hk, rfl, rfl, rfl, H⟩ := hrel
    by_cases h0 : 0 < k
    · by_cases h1 : k % 2 = 1
      · have hb : (bits BinOp.and IntKind.i64 (k : Int) 1 == 1) = true := by
          rw [i64_and1 _ (by omega) (by omega)]; rw [beq_iff_eq]; omega
        have H' : Hid (Sx.powL (k / 2) (Sx.mul xo xa) (Sx.mul xa xa) (k / 2) = Sx.pow a n) := by
          have := Sx.powL_step k xo xa h0
          rw [if_pos h1] at this
          exact this.symm.trans H.out
        clear h1 H
        go_wp2_with (go_at_call 98; refine (mul_any _ _ _).mono ?_; rintro e w' ⟨rfl, rfl⟩)
        go_round
        case rel => exact ⟨k / 2, _, _, by omega, by go_num, rfl, rfl, H'⟩
        case measure => simp [intOf]; omega
      · have hb : (bits BinOp.and IntKind.i64 (k : Int) 1 == 1) = false := by
          rw [i64_and1 _ (by omega) (by omega)]; rw [beq_eq_false_iff_ne]; omega
        have H' : Hid (Sx.powL (k / 2) xo (Sx.mul xa xa) (k / 2) = Sx.pow a n) := by
          have := Sx.powL_step k xo xa h0
          rw [if_neg h1] at this
          exact this.symm.trans H.out
        clear h1 H
        go_wp2_with (go_at_call 98; refine (mul_any _ _ _).mono ?_; rintro e w' ⟨rfl, rfl⟩)
        go_round
        case rel => exact ⟨k / 2, _, _, by omega, by go_num, rfl, rfl, H'⟩
        case measure => simp [intOf]; omega
    · obtain rfl : k = 0 := by omega
      go_wp2
      go_ret
      exact ⟨by rw [← H.out]; rfl, rfl⟩

theorem inv_any (a : UInt8) (w : World) : Calls Try.prog 125 #[.int .u8 (U8 a)] w fun e w' => e = .returned (.int .u8 (U8 (Sx.inv a))) ∧ w = w' := by
  go_enter Try.func125, Try.ntmps125
  go_wp2_with (go_at_call 97; refine (pow_any _ 254 _ (by omega)).mono ?_; rintro e w' ⟨rfl, rfl⟩)
  go_ret
  exact ⟨rfl, rfl⟩

theorem rot_eq (x : UInt8) (j : Nat) (hj : j < 8) (h1 : 0 < j) : bits BinOp.or IntKind.u8 (U8 x * (2 ^ j : Int) % (256 : Int)) (U8 x / (2 ^ (8 - j) : Int)) = U8 (Sx.rotl x j) := by
  have a := U8_shl x j hj
  rw [IntKind.wrap_u8] at a
  rw [a, U8_shr x (8 - j) (by omega), U8_or]
  rfl

theorem rot_any (x : UInt8) (k : Int) (hk : k = 1 ∨ k = 2 ∨ k = 3 ∨ k = 4) (w : World) : Calls Try.prog 126 #[.int .u8 (U8 x), .int .i64 k] w fun e w' => e = .returned (.int .u8 (U8 (Sx.rotl x k.toNat))) ∧ w = w' := by
  have e1 : bits BinOp.and IntKind.u64 1 7 = 1 := by decide
  have e2 : bits BinOp.and IntKind.u64 2 7 = 2 := by decide
  have e3 : bits BinOp.and IntKind.u64 3 7 = 3 := by decide
  have e4 : bits BinOp.and IntKind.u64 4 7 = 4 := by decide
  rcases hk with rfl | rfl | rfl | rfl
  all_goals
    go_enter Try.func126, Try.ntmps126
    go_wp2
    go_ret
    refine ⟨?_, rfl⟩
    first
      | exact congrArg (fun z => Ending.returned (.int .u8 z)) ((congrArg (fun z => bits BinOp.or IntKind.u8 z (U8 x / 128)) (U8_twice x).symm).trans (rot_eq x 1 (by decide) (by decide)))
      | exact congrArg (fun z => Ending.returned (.int .u8 z)) (rot_eq x 2 (by decide) (by decide))
      | exact congrArg (fun z => Ending.returned (.int .u8 z)) (rot_eq x 3 (by decide) (by decide))
      | exact congrArg (fun z => Ending.returned (.int .u8 z)) (rot_eq x 4 (by decide) (by decide))

theorem box_any (a : UInt8) (w : World) : Calls Try.prog 96 #[.int .u8 (U8 a)] w fun e w' => e = .returned (.int .u8 (U8 (Sx.box a))) ∧ w = w' := by
  have h99 : ∀ a : UInt8, bits BinOp.xor IntKind.u8 (U8 a) 99 = U8 (a ^^^ 99) := fun a => U8_xor a 99
  go_enter Try.func96, Try.ntmps96
  go_wp2_with (first | (go_at_call 125; refine (inv_any _ _).mono ?_; rintro e w' ⟨rfl, rfl⟩) | (go_at_call 126; refine (rot_any _ _ (by decide) _).mono ?_; rintro e w' ⟨rfl, rfl⟩))
  go_ret
  exact ⟨rfl, rfl⟩
end Go.Proofs.Ytieooonobjkglaa
