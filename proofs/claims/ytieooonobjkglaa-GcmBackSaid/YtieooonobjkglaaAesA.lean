/- The contracts of AES's steps. No condition but the lengths that an array of 16 bytes and a round key have. -/
import Derived.Test.YtieooonobjkglaaField
import Derived.Test.YtieooonobjkglaaMem
import Derived.Test.YtieooonobjkglaaPureA
namespace Go.Proofs.Ytieooonobjkglaa
open Go Go.Proofs Go.RowKit SW
attribute [local go_sem] U8_xor U8_fold
set_option maxRecDepth 20000
set_option maxHeartbeats 1000000

theorem size93 (l : List UInt8) (hl : l.length = 16) : (Try.prog.info? 93).map (·.size) = some (bv l).size := by rw [bv_size, hl]; kernel_rfl
theorem bv_at (l : List UInt8) (k : Nat) (x : UInt8) (h : l[k]? = some x) : (bv l)[k]? = some (.int .u8 (U8 x)) := by simp [bv, h]
def zeros (n : Nat) : List UInt8 := List.replicate n 0

theorem boxed_any (l : List UInt8) (hl : l.length = 16) (w : World) : Calls Try.prog 52 #[.agg (bv l)] w fun e w' => e = .returned (.agg (bv (l.map Sx.box))) ∧ Below w.heap.size w w' := by
  go_enter Try.func52, Try.ntmps52
  go_wp2
  go_loopw [3, 4] (fun _ i wr => ∃ k : Nat, k ≤ 16 ∧ i = .int .i64 k ∧ Blk wr w.heap.size (bv (Sx.gens (fun i => Sx.box (l.getD i 0)) (fun i => l.getD i 0) 16 k)) 93 ∧ Blk wr (w.heap.size + 1) (bv (zeros 16)) 93 ∧ Below w.heap.size w wr)
    (fun _ i _ => 16 - (intOf i).toNat)
  case atStart =>
    refine ⟨0, by omega, rfl, ?_, ?_, ?_⟩
    · rw [Sx.gens_zero, Sx.range_getD _ _ _ hl]; exact (Blk.new _ _ _).alloc _
    · have := Blk.new (w.alloc (Obj.cells (bv l) 93)) (bv (zeros 16)) 93
      rw [World.size_alloc] at this
      exact this
    · exact ((Below.refl _ _).alloc (Nat.le_refl _) _).alloc (by simp) _
  case round =>
    obtain ⟨k, hk, rfl, hB, hR, hW⟩ := hrel
    by_cases hlt : k < 16
    · have hc := hB.cell (bv_at _ k _ (Sx.gens_get _ _ 16 k k hlt))
      rw [if_neg (Nat.lt_irrefl k)] at hc
      have hf := hB.free k
      generalize hx : l.getD k 0 = x at hc
      have HX := Lib.hid hx
      clear hx
      go_wp2_with (go_at_call 96; refine (box_any _ _).mono ?_; rintro e w' ⟨rfl, rfl⟩)
      go_roundw
      case rel =>
        refine ⟨k + 1, by omega, by go_num, ?_, hR.other (by simp) _, hW.setCell (Nat.le_refl _) _⟩
        rw [← Sx.gens_set, ← bv_set, HX.out]
        exact hB.set k _
      case measure => simp [intOf]; omega
    · obtain rfl : k = 16 := by omega
      rw [Sx.gens_all, Sx.map_range_getD _ _ _ _ hl] at hB
      have hs := size93 (l.map Sx.box) (by simp [hl])
      go_wp2_with (first | (refine wpList_load_row rfl 93 _ rfl w.heap.size rfl 93 _ (0, 0) _ hB Try.underlying93 rfl hs ?_) | (refine wpList_store_row rfl 93 _ _ rfl (w.heap.size + 1) _ rfl rfl 93 _ hR hs (by simp [bv_size, hl, zeros]) (bv_one _) ?_))
      exact bodyPost_ret (results_cell_row rfl _ _ (w.heap.size + 1) 93 _ (0, 0) _ rfl (hR.row _) Try.underlying93 rfl hs) rfl ⟨rfl, below_setRow hW (by omega) _⟩

theorem turned_any (l : List UInt8) (hl : l.length = 16) (w : World) : Calls Try.prog 53 #[.agg (bv l)] w fun e w' => e = .returned (.agg (bv (Sx.turned l))) ∧ Below w.heap.size w w' := by
  go_enter Try.func53, Try.ntmps53
  go_wp2
  go_loopw [4, 5] (fun _ i wr => ∃ k : Nat, k ≤ 16 ∧ i = .int .i64 k ∧ Blk wr w.heap.size (bv l) 93 ∧ Blk wr (w.heap.size + 1) (bv (zeros 16)) 93 ∧
      Blk wr (w.heap.size + 1 + 1) (bv (Sx.gens (fun i => l.getD ((i + 4 * (i % 4)) % 16) 0) (fun _ => 0) 16 k)) 93 ∧ Below w.heap.size w wr)
    (fun _ i _ => 16 - (intOf i).toNat)
  case atStart =>
    refine ⟨0, by omega, rfl, ?_, ?_, ?_, ?_⟩
    · exact ((Blk.new _ _ _).alloc _).alloc _
    · have := Blk.new (w.alloc (Obj.cells (bv l) 93)) (bv (zeros 16)) 93
      rw [World.size_alloc] at this
      exact this.alloc _
    · have := Blk.new ((w.alloc (Obj.cells (bv l) 93)).alloc (Obj.cells (bv (zeros 16)) 93)) (bv (zeros 16)) 93
      rw [World.size_alloc, World.size_alloc] at this
      exact this
    · exact (((Below.refl _ _).alloc (Nat.le_refl _) _).alloc (by simp) _).alloc (by simp; omega) _
  case round =>
    obtain ⟨k, hk, rfl, hB, hR, hO, hW⟩ := hrel
    by_cases hlt : k < 16
    · have h3 := i64_and3 (k : Int) (by omega) (by omega)
      have hj : ∃ j : Nat, j = (k + 4 * (k % 4)) % 16 ∧ bits BinOp.and IntKind.i64 ((k : Int) + 4 * ((k : Int) % 4)) 15 = (j : Int) := ⟨_, rfl, by
        rw [i64_and15 _ (by omega) (by omega)]; omega⟩
      obtain ⟨j, hj, h15⟩ := hj
      have hj16 : j < 16 := by omega
      have hjl : j < l.length := by omega
      have hc := hB.cell (bv_at l j _ (List.getElem?_eq_getElem hjl))
      have hd := hO.cell (bv_at _ k _ (Sx.gens_get _ _ 16 k k hlt))
      rw [if_neg (Nat.lt_irrefl k)] at hd
      have hf := hO.free k
      have HJ := Lib.hid hj
      clear hj
      generalize hx : l[j] = x at hc
      have HX := Lib.hid hx
      clear hx
      go_wp2
      go_roundw
      case rel =>
        refine ⟨k + 1, by omega, by go_num, hB.other (by simp; omega) _, hR.other (by simp) _, ?_, hW.setCell (by simp; omega) _⟩
        rw [← Sx.gens_set, ← bv_set]
        have e : l.getD ((k + 4 * (k % 4)) % 16) 0 = x := by rw [← HJ.out, ← HX.out]; simp [hjl]
        rw [e]
        exact hO.set k _
      case measure => simp [intOf]; omega
    · obtain rfl : k = 16 := by omega
      rw [Sx.gens_all] at hO
      have hs := size93 (Sx.turned l) (Sx.turned_length l)
      go_wp2_with (first | (refine wpList_load_row rfl 93 _ rfl (w.heap.size + 1 + 1) rfl 93 _ (0, 0) _ hO Try.underlying93 rfl hs ?_) | (refine wpList_store_row rfl 93 _ _ rfl (w.heap.size + 1) _ rfl rfl 93 _ hR hs (by simp [bv_size, zeros]) (bv_one _) ?_))
      exact bodyPost_ret (results_cell_row rfl _ _ (w.heap.size + 1) 93 _ (0, 0) _ rfl (hR.row _) Try.underlying93 rfl hs) rfl ⟨rfl, below_setRow hW (by omega) _⟩

theorem with_any (l : List UInt8) (hl : l.length = 16) (s : ByteArray) (hsz : s.size = 16) (w : World) : Calls Try.prog 51 #[.agg (bv l), .string s] w fun e w' => e = .returned (.agg (bv (Sx.withKey l s.data.toList))) ∧ Below w.heap.size w w' := by
  have hmx : Try.prog.toTables.follows .mixedOrders = true := by kernel_rfl
  go_enter Try.func51, Try.ntmps51
  go_wp2
  go_loopw [5, 6] (fun _ i wr => ∃ k : Nat, k ≤ 16 ∧ i = .int .i64 k ∧ Blk wr w.heap.size (bv (Sx.gens (fun i => l.getD i 0 ^^^ s.data.toList.getD i 0) (fun i => l.getD i 0) 16 k)) 93 ∧ Blk wr (w.heap.size + 1) (bv (zeros 16)) 93 ∧ Below w.heap.size w wr)
    (fun _ i _ => 16 - (intOf i).toNat)
  case atStart =>
    refine ⟨0, by omega, rfl, ?_, ?_, ?_⟩
    · rw [Sx.gens_zero, Sx.range_getD _ _ _ hl]; exact (Blk.new _ _ _).alloc _
    · have := Blk.new (w.alloc (Obj.cells (bv l) 93)) (bv (zeros 16)) 93
      rw [World.size_alloc] at this
      exact this
    · exact ((Below.refl _ _).alloc (Nat.le_refl _) _).alloc (by simp) _
  case round =>
    obtain ⟨k, hk, rfl, hB, hR, hW⟩ := hrel
    by_cases hlt : k < 16
    · have hc := hB.cell (bv_at _ k _ (Sx.gens_get _ _ 16 k k hlt))
      rw [if_neg (Nat.lt_irrefl k)] at hc
      have hf := hB.free k
      have hks : k < s.size := by omega
      generalize hx : l.getD k 0 = x at hc
      have HX := Lib.hid hx
      clear hx
      have HL := Lib.hid hsz
      clear hsz
      go_wp2_with (refine wp_tail 8 hmx (by kernel_rfl) ?_; simp only [List.take_succ_cons, List.take_zero, List.drop_succ_cons, List.drop_zero]; (repeat still_step); refine wpStill_nil ?_)
      go_roundw
      case rel =>
        refine ⟨k + 1, by omega, by go_num, ?_, (hR.drew).other (by simp) _, (hW.drew).setCell (Nat.le_refl _) _⟩
        rw [← Sx.gens_set, ← bv_set, HX.out]
        rw [str_getD s k hks]
        exact (hB.drew).set k _
      case measure => simp [intOf]; omega
    · obtain rfl : k = 16 := by omega
      rw [Sx.gens_all] at hB
      have hs := size93 (Sx.withKey l s.data.toList) (Sx.withKey_length l _)
      go_wp2_with (first | (refine wpList_load_row rfl 93 _ rfl w.heap.size rfl 93 _ (0, 0) _ hB Try.underlying93 rfl hs ?_) | (refine wpList_store_row rfl 93 _ _ rfl (w.heap.size + 1) _ rfl rfl 93 _ hR hs (by simp [bv_size, zeros]) (bv_one _) ?_))
      exact bodyPost_ret (results_cell_row rfl _ _ (w.heap.size + 1) 93 _ (0, 0) _ rfl (hR.row _) Try.underlying93 rfl hs) rfl ⟨rfl, below_setRow hW (by omega) _⟩
end Go.Proofs.Ytieooonobjkglaa
