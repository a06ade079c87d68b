/- The contracts of ghash.filled and slices.Collect at it. No condition on the world. -/
import Derived.Test.YtieooonobjkglaaGhC
namespace Go.Proofs.Ytieooonobjkglaa
open Go Go.Proofs Go.RowKit Go.Shelf SW
set_option maxRecDepth 20000
set_option maxHeartbeats 4000000

theorem collect_any (s : ByteArray) (hs : s.size ≤ 100000) (Bn : Nat) (w : World) (hBn : Blk w Bn #[.string s] 9) :
    Calls Try.prog 147 #[.func (.func 173) #[] #[.pointer (some ⟨Bn, 0, none⟩)]] w fun e w' =>
      ∃ v, e = .returned v ∧ Own w' w.heap.size 1 v (Sx.chunks s.data.toList).length (strs (Sx.chunks s.data.toList)) ∧ BelowBut w Bn w' ∧ ((Sx.chunks s.data.toList).length = 0 → v = .slice none 0 0) := by
  go_enter Try.func147, Try.ntmps147
  go_wp2_with (go_at_call 172; refine (appendSeq_any s hs Bn w hBn).mono ?_; rintro e w1 ⟨v, rfl, h1, h2, h3⟩)
  go_ret
  exact ⟨v, rfl, h1, h2, h3⟩

theorem filled_any (s : ByteArray) (w : World) : Calls Try.prog 148 #[.string s] w fun e w' =>
    e = .returned (.func (.func 173) #[] #[.pointer (some ⟨w.heap.size, 0, none⟩)]) ∧ w' = w.alloc (.cells #[.string s] 9) := by
  go_enter Try.func148, Try.ntmps148
  go_wp2
  go_ret
  exact ⟨rfl, rfl⟩
end Go.Proofs.Ytieooonobjkglaa
