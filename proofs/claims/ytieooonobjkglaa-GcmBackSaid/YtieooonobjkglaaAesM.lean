/- The contract of AES's mixing. -/
import Derived.Test.YtieooonobjkglaaAesA
namespace Go.Proofs.Ytieooonobjkglaa
open Go Go.Proofs Go.RowKit SW
attribute [local go_sem] U8_xor U8_fold
set_option maxRecDepth 20000
set_option maxHeartbeats 2000000

theorem mixed_any (l : List UInt8) (hl : l.length = 16) (w : World) : Calls Try.prog 54 #[.agg (bv l)] w fun e w' => e = .returned (.agg (bv (Sx.mixed l))) ∧ Below w.heap.size w w' := by
  have hmx : Try.prog.toTables.follows .mixedOrders = true := by kernel_rfl
  have a1 : bits BinOp.and IntKind.i64 1 3 = 1 := by decide
  have a2 : bits BinOp.and IntKind.i64 2 3 = 2 := by decide
  have a3 : bits BinOp.and IntKind.i64 3 3 = 3 := by decide
  have a4 : bits BinOp.and IntKind.i64 4 3 = 0 := by decide
  go_enter Try.func54, Try.ntmps54
  go_wp2
  go_loopw [3, 4, 5, 6] (fun i _ _ _ wr => ∃ k : Nat, k ≤ 4 ∧ i = .int .i64 (4 * (k : Int)) ∧ Blk wr w.heap.size (bv (Sx.gens (Sx.mix1 l) (fun i => l.getD i 0) 16 (4 * k))) 93 ∧ Blk wr (w.heap.size + 1) (bv (zeros 16)) 93 ∧ Below w.heap.size w wr)
    (fun i _ _ _ _ => 16 - (intOf i).toNat)
  case atStart =>
    refine ⟨0, by omega, rfl, ?_, ?_, ?_⟩
    · rw [Sx.gens_zero, Sx.range_getD _ _ _ hl]; exact (Blk.new _ _ _).alloc _
    · have := Blk.new (w.alloc (Obj.cells (bv l) 93)) (bv (zeros 16)) 93
      rw [World.size_alloc] at this
      exact this
    · exact ((Below.refl _ _).alloc (Nat.le_refl _) _).alloc (by simp) _
  case round =>
    obtain ⟨k, hk, rfl, hB, hR, hW⟩ := hrel
    by_cases hlt : k < 4
    · have c0 := hB.cell (bv_at _ (4 * k) _ (Sx.gens_get _ _ 16 (4 * k) (4 * k) (by omega)))
      have c1 := hB.cell (bv_at _ (4 * k + 1) _ (Sx.gens_get _ _ 16 (4 * k) (4 * k + 1) (by omega)))
      have c2 := hB.cell (bv_at _ (4 * k + 2) _ (Sx.gens_get _ _ 16 (4 * k) (4 * k + 2) (by omega)))
      have c3 := hB.cell (bv_at _ (4 * k + 3) _ (Sx.gens_get _ _ 16 (4 * k) (4 * k + 3) (by omega)))
      rw [if_neg (by omega)] at c0 c1 c2 c3
      have f0 := hB.free (4 * k)
      have f1 := hB.free (4 * k + 1)
      have f2 := hB.free (4 * k + 2)
      have f3 := hB.free (4 * k + 3)
      have hsl : ∀ W, (Instr.sliceAt 93 (.pointer (some ⟨w.heap.size, 0, none⟩)) (some (.int .i64 (4 * (k : Int)))) (some (.int .i64 (4 * (k : Int) + 4))) none).run Try.prog W = .ok (.slice (some ⟨w.heap.size, 4 * k, none⟩) 4 (16 - 4 * k)) W := fun W => by
        have := slice_arr (P := Try.prog) 93 5 16 w.heap.size (4 * k) (4 * k + 4) (4 * (k : Int)) (4 * (k : Int) + 4) (by omega) (by omega) Try.underlying93 (fun _ => by kernel_rfl) (by omega) (by omega) (by omega) W
        rw [this]; congr 2; omega
      have har : ∀ W, (Instr.arrayAt 143 (.slice (some ⟨w.heap.size, 4 * k, none⟩) 4 (16 - 4 * k))).run Try.prog W = .ok (.pointer (some ⟨w.heap.size, 4 * k, none⟩)) W := fun W => run_arrayAt (w := W) 143 5 4 _ 4 _ Try.underlying143 (by omega)
      generalize hx0 : l.getD (4 * k) 0 = x0 at c0
      generalize hx1 : l.getD (4 * k + 1) 0 = x1 at c1
      generalize hx2 : l.getD (4 * k + 2) 0 = x2 at c2
      generalize hx3 : l.getD (4 * k + 3) 0 = x3 at c3
      have X0 := Lib.hid hx0
      have X1 := Lib.hid hx1
      have X2 := Lib.hid hx2
      have X3 := Lib.hid hx3
      clear hx0 hx1 hx2 hx3
      have hlt0 := hB.lt
      have r1 : (0 : Int) ≤ 4 * (k : Int) + 1 := by omega
      have s1 : 4 * (k : Int) + 1 < 16 := by omega
      have r2 : (0 : Int) ≤ 4 * (k : Int) + 2 := by omega
      have s2 : 4 * (k : Int) + 2 < 16 := by omega
      have r3 : (0 : Int) ≤ 4 * (k : Int) + 3 := by omega
      have s3 : 4 * (k : Int) + 3 < 16 := by omega
      have r0 : (0 : Int) ≤ 4 * (k : Int) := by omega
      have s0 : 4 * (k : Int) < 16 := by omega
      have l1 : IntKind.i64.wrap 1 = 1 := IntWalk.i64_in _ (by omega)
      have l2 : IntKind.i64.wrap 2 = 2 := IntWalk.i64_in _ (by omega)
      have l3 : IntKind.i64.wrap 3 = 3 := IntWalk.i64_in _ (by omega)
      have l4 : IntKind.i64.wrap 4 = 4 := IntWalk.i64_in _ (by omega)
      have w0 : IntKind.i64.wrap (4 * (k : Int)) = 4 * (k : Int) := IntWalk.i64_in _ (by omega)
      have w1 : IntKind.i64.wrap (4 * (k : Int) + 1) = 4 * (k : Int) + 1 := IntWalk.i64_in _ (by omega)
      have w2 : IntKind.i64.wrap (4 * (k : Int) + 2) = 4 * (k : Int) + 2 := IntWalk.i64_in _ (by omega)
      have w3 : IntKind.i64.wrap (4 * (k : Int) + 3) = 4 * (k : Int) + 3 := IntWalk.i64_in _ (by omega)
      have t0 : (4 * (k : Int)).toNat = 4 * k := by omega
      have t1 : (4 * (k : Int) + 1).toNat = 4 * k + 1 := by omega
      have t2 : (4 * (k : Int) + 2).toNat = 4 * k + 2 := by omega
      have t3 : (4 * (k : Int) + 3).toNat = 4 * k + 3 := by omega
      go_wp2
      refine wp_loop_rounds 5 ?_
      iterate 5
        rw [rounds_succ]
        go_wp2_with (refine wp_tail 19 hmx (by kernel_rfl) ?_; simp only [List.take_succ_cons, List.take_zero, List.drop_succ_cons, List.drop_zero]; (repeat still_step); still_call ((mul_any _ 2 _).mono fun _ _ h => ⟨h.1, h.2.symm⟩); (repeat still_step); refine wpStill_nil ?_)
      go_roundw
      case rel =>
        refine ⟨k + 1, by omega, by go_num, ?_, (((((hR.other (by simp) _).other (by simp) _).other (by simp) _).other (by simp) _).alloc _), ?_⟩
        · have := ((((hB.set (4 * k) (.int .u8 (U8 (x0 ^^^ (x0 ^^^ x1 ^^^ x2 ^^^ x3 ^^^ Sx.mul (x0 ^^^ x1) 2))))).set (4 * k + 1) (.int .u8 (U8 (x1 ^^^ (x0 ^^^ x1 ^^^ x2 ^^^ x3 ^^^ Sx.mul (x1 ^^^ x2) 2))))).set (4 * k + 2) (.int .u8 (U8 (x2 ^^^ (x0 ^^^ x1 ^^^ x2 ^^^ x3 ^^^ Sx.mul (x2 ^^^ x3) 2))))).set (4 * k + 3) (.int .u8 (U8 (x3 ^^^ (x0 ^^^ x1 ^^^ x2 ^^^ x3 ^^^ Sx.mul (x3 ^^^ x0) 2))))).alloc (Obj.cells #[Value.int IntKind.u8 (U8 x0), Value.int IntKind.u8 (U8 x1), Value.int IntKind.u8 (U8 x2), Value.int IntKind.u8 (U8 x3)] 143)
          rw [bv_set, bv_set, bv_set, bv_set, Sx.mix4 l k x0 x1 x2 x3 X0.out X1.out X2.out X3.out] at this
          exact this
        · exact (((((hW.setCell (p := ⟨w.heap.size, 4 * k, none⟩) (Nat.le_refl _) _).setCell (p := ⟨w.heap.size, 4 * k + 1, none⟩) (Nat.le_refl _) _).setCell (p := ⟨w.heap.size, 4 * k + 2, none⟩) (Nat.le_refl _) _).setCell (p := ⟨w.heap.size, 4 * k + 3, none⟩) (Nat.le_refl _) _).alloc (by simp; omega) _).drew.drew.drew.drew
      case measure => simp [intOf]; omega
    · obtain rfl : k = 4 := by omega
      rw [Sx.gens_all] at hB
      have hs := size93 (Sx.mixed l) (Sx.mixed_length l)
      go_wp2_with (first | (refine wpList_load_row rfl 93 _ rfl w.heap.size rfl 93 _ (0, 0) _ hB Try.underlying93 rfl hs ?_) | (refine wpList_store_row rfl 93 _ _ rfl (w.heap.size + 1) _ rfl rfl 93 _ hR hs (by simp [bv_size, zeros]) (bv_one _) ?_))
      exact bodyPost_ret (results_cell_row rfl _ _ (w.heap.size + 1) 93 _ (0, 0) _ rfl (hR.row _) Try.underlying93 rfl hs) rfl ⟨rfl, below_setRow hW (by omega) _⟩
end Go.Proofs.Ytieooonobjkglaa
