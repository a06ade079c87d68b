/- The contracts of gcm's text and mask. No condition on the world. -/
import Derived.Test.YtieooonobjkglaaGcmA
namespace Go.Proofs.Ytieooonobjkglaa
open Go Go.Proofs Go.RowKit Go.Shelf SW
set_option maxRecDepth 20000
set_option maxHeartbeats 4000000
/-- A text xor another one. -/
def Sx.xorL (s m : List UInt8) : List UInt8 := (List.range s.length).map fun i => s.getD i 0 ^^^ m.getD i 0
section
attribute [local go_sem] U8_xor U8_fold
theorem text_any (m s : ByteArray) (hms : s.size ≤ m.size) (hs : s.size ≤ 100000) (w : World) : Calls Try.prog 87 #[.string m, .string s] w fun e w' =>
    e = .returned (.string ⟨(Sx.xorL s.data.toList m.data.toList).toArray⟩) ∧ Below w.heap.size w w' := by
  have hmx : Try.prog.toTables.follows .mixedOrders = true := by kernel_rfl
  have hconv := run_bytes_of_string w 9 32 5 s Try.underlying9 Try.underlying32 Try.underlying5
  have hO := Own.of_bytes (base := w.heap.size) s w 5 (grownCap w s.size 0 5) (grownCap_ge _ _ _ _) (Nat.le_refl _)
  have hcg := grownCap_ge w s.size 0 5
  have hW := (Below.refl w.heap.size w).drew.alloc (Nat.le_refl _) (Obj.cells (bytesRow s (grownCap w s.size 0 5)) 5 ((bytesRow s (grownCap w s.size 0 5)).size, (bytesRow s (grownCap w s.size 0 5)).size + 1))
  generalize hW0 : w.drew.alloc (Obj.cells (bytesRow s (grownCap w s.size 0 5)) 5 ((bytesRow s (grownCap w s.size 0 5)).size, (bytesRow s (grownCap w s.size 0 5)).size + 1)) = W0 at hconv hO hW
  clear hW0
  generalize grownCap w s.size 0 5 = cp0 at hconv hO hcg ⊢
  have hlen : s.data.toList.length = s.size := by simp
  have HR : Hid (Sx.xorL s.data.toList m.data.toList = (List.range s.size).map fun i => s.data.toList.getD i 0 ^^^ m.data.toList.getD i 0) := by
    unfold Sx.xorL; rw [hlen]; exact rfl
  go_enter Try.func87, Try.ntmps87
  go_wp2
  go_loopw [6, 11] (fun _ iv wr => ∃ k : Nat, k ≤ s.size ∧ iv = .int .i64 k ∧
      Own wr w.heap.size 1 (.slice (some ⟨w.heap.size, 0, none⟩) s.size cp0) s.size (bv (Sx.gens (fun i => s.data.toList.getD i 0 ^^^ m.data.toList.getD i 0) (fun i => s.data.toList.getD i 0) s.size k)).toList ∧ Below w.heap.size w wr)
    (fun _ iv _ => s.size - (intOf iv).toNat)
  case atStart =>
    refine ⟨0, by omega, rfl, ?_, hW⟩
    rw [Sx.gens_zero, Sx.range_getD _ _ _ hlen]
    exact hO
  case round =>
    clear hO hW hconv
    obtain ⟨k, hk, rfl, hO, hW⟩ := hrel
    by_cases hlt : k < s.size
    · have hkm : k < m.size := by omega
      have hc := hO.cells k (.int .u8 (U8 (s.data.toList.getD k 0))) (by
        have := bv_at _ k _ (Sx.gens_get (fun i => s.data.toList.getD i 0 ^^^ m.data.toList.getD i 0) (fun i => s.data.toList.getD i 0) s.size k k hlt)
        rw [if_neg (Nat.lt_irrefl k)] at this
        rw [Array.getElem?_toList]; exact this)
      have hf := hO.free k (by omega)
      generalize hx : s.data.toList.getD k 0 = x at hc
      have HX := Lib.hid hx
      clear hx hlen
      go_wp2_with (refine wp_tail 9 hmx (by kernel_rfl) ?_; simp only [List.take_succ_cons, List.take_zero, List.drop_succ_cons, List.drop_zero]; (repeat still_step); refine wpStill_nil ?_)
      go_roundw
      case rel =>
        refine ⟨k + 1, by omega, by go_num, ?_, (hW.drew).setCell (Nat.le_refl _) _⟩
        rw [← Sx.gens_set, ← bv_set, Array.toList_setIfInBounds]
        rw [HX.out, str_getD m k hkm]
        exact (hO.drew).stored k _
      case measure => simp [intOf]; omega
    · obtain rfl : k = s.size := by omega
      rw [Sx.gens_all, ← HR.out] at hO
      have hln : (Sx.xorL s.data.toList m.data.toList).length = s.size := by rw [HR.out]; simp
      have hcv := bytes_back_at (P := Try.prog) 32 9 5 Try.underlying32 Try.underlying5 Try.underlying9 (W := wr) (b := w.heap.size) (o := 0) (l := Sx.xorL s.data.toList m.data.toList)
        (fun j hj => by rw [Nat.zero_add]; exact hO.cells j _ (by rw [Array.getElem?_toList]; exact bv_get _ j hj)) s.size cp0 hln
      clear HR hlen hln
      go_wp2
      go_ret
      exact ⟨rfl, hW⟩
theorem mask_any (kk : Nat) (hk : kk = 4 ∨ kk = 8) (key nonce : ByteArray) (hkey : key.size = 4 * kk) (hn : nonce.size = 12) (f : UInt32) (many : Nat) (hm : many ≤ 5000) (w : World) :
    Calls Try.prog 37 #[.agg #[.string key, .string nonce], .int .u32 (U32 f), .int .i64 many] w fun e w' =>
      e = .returned (.func (.func 87) #[.string ⟨(Sx.stream kk key.data.toList nonce.data.toList f many).toArray⟩] #[]) ∧ Below w.heap.size w w' := by
  have hB := Blk.new w #[.string key, .string nonce] 68
  have hW : Below w.heap.size w (w.alloc (Obj.cells #[.string key, .string nonce] 68)) := (Below.refl _ _).alloc (Nat.le_refl _) _
  go_enter Try.func37, Try.ntmps37
  go_wp2_with (first
    | (refine wpList_load_row rfl 68 _ rfl w.heap.size rfl 68 _ (0, 0) _ hB Try.underlying68 rfl (by kernel_rfl) ?_)
    | (go_at_call 86; refine (stream_any kk hk key nonce hkey hn f many hm _).mono ?_; rintro e w1 ⟨rfl, hk1⟩))
  go_ret
  exact ⟨rfl, Below.callee hW hk1⟩
end
end Go.Proofs.Ytieooonobjkglaa
