/- The contracts of law 8's own small functions: alive, cut. No condition on the world. -/
import Derived.Test.YtieooonobjkglaaGcmE
namespace Go.Proofs.Ytieooonobjkglaa
open Go Go.Proofs Go.RowKit Go.Shelf SW
set_option maxRecDepth 100000
set_option maxHeartbeats 4000000
theorem alive_seal : Sx.sealOf 4 (List.replicate 16 0) (List.replicate 12 0) [] [] = [0x58, 0xe2, 0xfc, 0xce, 0xfa, 0x7e, 0x30, 0x61, 0x36, 0x7f, 0x1d, 0x57, 0xa4, 0xe7, 0x45, 0x5a] := by decide +kernel
theorem alive8_any (w : World) : Calls Try.prog 13 #[] w fun e w' => e = .returned (.bool true) ∧ Below w.heap.size w w' := by
  have C0 : Hid (∀ w, Calls Try.prog 16 #[.string ⟨#[0]⟩, .int .i64 16] w fun e w' => e = .returned (.string ⟨(List.replicate 16 0).toArray⟩) ∧ Below w.heap.size w w') := by exact fun w => zeros_call 16 (by omega) w
  have C1 : Hid (∀ w, Calls Try.prog 16 #[.string ⟨#[0]⟩, .int .i64 12] w fun e w' => e = .returned (.string ⟨(List.replicate 12 0).toArray⟩) ∧ Below w.heap.size w w') := by exact fun w => zeros_call 12 (by omega) w
  have C2 : Hid (∀ w, Calls Try.prog 15 #[.string ⟨(List.replicate 16 0).toArray⟩, .string ⟨(List.replicate 12 0).toArray⟩, .string ⟨#[]⟩, .string ⟨#[]⟩] w fun e w' =>
      e = .returned (.tuple #[.string ⟨#[0x58, 0xe2, 0xfc, 0xce, 0xfa, 0x7e, 0x30, 0x61, 0x36, 0x7f, 0x1d, 0x57, 0xa4, 0xe7, 0x45, 0x5a]⟩, .int .i64 0]) ∧ Below w.heap.size w w') := by
    refine show ∀ w, _ from fun w => ?_
    have := seal_any 4 (.inl rfl) ⟨(List.replicate 16 0).toArray⟩ ⟨(List.replicate 12 0).toArray⟩ ⟨#[]⟩ ⟨#[]⟩ rfl rfl (Nat.zero_le _) (Nat.zero_le _) w
    rw [show (⟨(List.replicate 16 0).toArray⟩ : ByteArray).data.toList = List.replicate 16 0 from rfl, show (⟨(List.replicate 12 0).toArray⟩ : ByteArray).data.toList = List.replicate 12 0 from rfl,
      show (⟨#[]⟩ : ByteArray).data.toList = [] from rfl, alive_seal] at this
    exact this
  generalize (List.replicate 16 (0 : UInt8)).toArray = z16 at C0 C2
  generalize (List.replicate 12 (0 : UInt8)).toArray = z12 at C1 C2
  go_enter Try.func13, Try.ntmps13
  go_wp2_with (first
    | (go_at_call 16; ((with_reducible refine (C0.out _).mono ?_); rintro e w1 ⟨rfl, hk1⟩))
    | (go_at_call 16; ((with_reducible refine (C1.out _).mono ?_); rintro e w2 ⟨rfl, hk2⟩))
    | (go_at_call 15; refine (C2.out _).mono ?_; rintro e w3 ⟨rfl, hk3⟩))
  go_ret
  exact ⟨rfl, Below.callee (Below.callee hk1 hk2) hk3⟩
/-- A text's first 70 bytes. -/
def cut70 (s : ByteArray) : ByteArray := s.extract 0 (min s.size 70)
theorem cut70_size (s : ByteArray) : (cut70 s).size ≤ 70 := by simp [cut70]; omega
theorem cut_any (s : ByteArray) (hs : s.size ≤ maxLen) (w : World) : Calls Try.prog 10 #[.string s] w fun e w' => e = .returned (.string (cut70 s)) ∧ w = w' := by
  unfold maxLen at hs
  have hm : min (s.size : Int) 70 = ((min s.size 70 : Nat) : Int) := by omega
  have hsl : ∀ W, (Instr.slice 9 (.string s) none (some (.int .i64 ((min s.size 70 : Nat) : Int))) none).run Try.prog W = .ok (.string (cut70 s)) W := fun W => by
    rw [run_slice_string_h (ht := Try.underlying9) (h0 := by omega) (h2 := by omega)]
    rfl
  go_enter Try.func10, Try.ntmps10
  go_wp2
  go_ret
  exact ⟨rfl, rfl⟩
end Go.Proofs.Ytieooonobjkglaa
