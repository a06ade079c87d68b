/- The walk of law GcmBack, whole. -/
import Derived.Test.YtieooonobjkglaaLaw8B
namespace Go.Proofs.Ytieooonobjkglaa
open Go Go.Proofs Go.RowKit SW
theorem gcmBack_walk (a0 : ByteArray) (a1 : ByteArray) (a2 : ByteArray) (a3 : ByteArray) (a4 : ByteArray) (a5 : Int) (w0 : a0.size ≤ maxLen) (w1 : a1.size ≤ maxLen) (w2 : a2.size ≤ maxLen) (w3 : a3.size ≤ maxLen) (w4 : a4.size ≤ maxLen) (w5 : (Lit.int .i64 a5).wf = true) (w : World) :
    Calls Try.prog 4 #[.string a0, .string a1, .string a2, .string a3, .string a4, .int .i64 a5] w fun e w' => e = .returned (.bool true) ∧ Below w.heap.size w w' := by
  by_cases h : ((cut70 a0).size = 16 ∨ (cut70 a0).size = 32) ∧ (cut70 a1).size = 12
  · exact back_ok (if (cut70 a0).size = 16 then 4 else 8) (by split <;> simp) a0 a1 a2 a3 a4 a5 w0 w1 w2 w3 w4 w5 (by split <;> omega) h.2 w
  · exact back_bad a0 a1 a2 a3 a4 a5 w0 w1 w2 w3 w4 h w
end Go.Proofs.Ytieooonobjkglaa
