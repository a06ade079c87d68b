/- The contracts of AES's steps. No condition but the lengths that an array of 16 bytes and a round key have. -/
import Derived.Test.YtieooonobjkglaaQField
import Derived.Test.YtieooonobjkglaaQMem
import Derived.Test.YtieooonobjkglaaQPure
namespace Go.Proofs.Ytieooonobjkglaa
open Go Go.Proofs Go.RowKit SW
attribute [local go_sem] U8_xor U8_fold
set_option maxRecDepth 20000
set_option maxHeartbeats 1000000

theorem size93 (l : List UInt8) (hl : l.length = 16) : (Try.prog.info? 93).map (·.size) = some (bv l).size := by rw [bv_size, hl]; kernel_rfl
theorem bv_at (l : List UInt8) (k : Nat) (x : UInt8) (h : l[k]? = some x) : (bv l)[k]? = some (.int .u8 (U8 x)) := by simp [bv, h]
def zeros (n : Nat) : List UInt8 := List.replicate n 0

theorem boxed_any (l : List UInt8) (hl : l.length = 16) (w : World) : Calls Try.prog 52 #[.agg (bv l)] w fun e w' => e = .returned (.agg (bv (l.map Sx.box))) ∧ Below w.heap.size w w' := by
  go_enter Try.func52, Try.ntmps52
  go_wp2
  go_loopw [3, 4] (fun _ i wr => ∃ k : Nat, k ≤ 16 ∧ i = .int .i64 k ∧ Blk wr w.heap.size (bv (Sx.gens (fun i => Sx.box (l.getD i 0)) (fun i => l.getD i 0) 16 k)) 93 ∧ Blk wr (w.heap.size + 1) (bv (zeros 16)) 93 ∧ Below w.heap.size w wr)
    (fun _ i _ => 16 - (intOf i).toNat)
  case atStart =>
    refine ⟨0, by omega, rfl, ?_, ?_, ?_⟩
    · rw [Sx.gens_zero, Sx.range_getD _ _ _ hl]; exact (Blk.new _ _ _).alloc _
    · have := Blk.new (w.alloc (Obj.cells (bv l) 93)) (bv (zeros 16)) 93
      rw [World.size_alloc] at this
      exact this
    · exact ((Below.refl _ _).alloc (Nat.le_refl _) _).alloc (by simp) _
  case round =>
    obtain ⟨k, hk, rfl, hB, hR, hW⟩ := hrel
    by_cases hlt : k < 16
    · have hc := hB.cell (bv_at _ k _ (Sx.gens_get _ _ 16 k k hlt))
      rw [if_neg (Nat.lt_irrefl k)] at hc
      have hf := hB.free k
      generalize hx : l.getD k 0 = x at hc
      have HX := Lib.hid hx
      clear hx
      go_wp2_with (go_at_call 96; refine (box_any _ _).mono ?_; rintro e w' ⟨rfl, rfl⟩)
      go_roundw
      case rel =>
        refine ⟨k + 1, by omega, by go_num, ?_, hR.other (by simp) _, hW.setCell (Nat.le_refl _) _⟩
        rw [← Sx.gens_set, ← bv_set, HX.out]
        exact hB.set k _
      case measure => simp [intOf]; omega
    · obtain rfl : k = 16 := by omega
      rw [Sx.gens_all, Sx.map_range_getD _ _ _ _ hl] at hB
      have hs := size93 (l.map Sx.box) (by simp [hl])
      go_wp2_with (first | (refine wpList_load_row rfl 93 _ rfl w.heap.size rfl 93 _ (0, 0) _ hB Try.underlying93 rfl hs ?_) | (refine wpList_store_row rfl 93 _ _ rfl (w.heap.size + 1) _ rfl rfl 93 _ hR hs (by simp [bv_size, hl, zeros]) (bv_one _) ?_))
      exact bodyPost_ret (results_cell_row rfl _ _ (w.heap.size + 1) 93 _ (0, 0) _ rfl (hR.row _) Try.underlying93 rfl hs) rfl ⟨rfl, below_setRow hW (by omega) _⟩

theorem turned_any (l : List UInt8) (hl : l.length = 16) (w : World) : Calls Try.prog 53 #[.agg (bv l)] w fun e w' => e = .returned (.agg (bv (Sx.turned l))) ∧ Below w.heap.size w w' := by
  go_enter Try.func53, Try.ntmps53
  go_wp2
  go_loopw [4, 5] (fun _ i wr => ∃ k : Nat, k ≤ 16 ∧ i = .int .i64 k ∧ Blk wr w.heap.size (bv l) 93 ∧ Blk wr (w.heap.size + 1) (bv (zeros 16)) 93 ∧
      Blk wr (w.heap.size + 1 + 1) (bv (Sx.gens (fun i => l.getD ((i + 4 * (i % 4)) % 16) 0) (fun _ => 0) 16 k)) 93 ∧ Below w.heap.size w wr)
    (fun _ i _ => 16 - (intOf i).toNat)
  case atStart =>
    refine ⟨0, by omega, rfl, ?_, ?_, ?_, ?_⟩
    · exact ((Blk.new _ _ _).alloc _).alloc _
    · have := Blk.new (w.alloc (Obj.cells (bv l) 93)) (bv (zeros 16)) 93
      rw [World.size_alloc] at this
      exact this.alloc _
    · have := Blk.new ((w.alloc (Obj.cells (bv l) 93)).alloc (Obj.cells (bv (zeros 16)) 93)) (bv (zeros 16)) 93
      rw [World.size_alloc, World.size_alloc] at this
      exact this
    · exact (((Below.refl _ _).alloc (Nat.le_refl _) _).alloc (by simp) _).alloc (by simp; omega) _
  case round =>
    obtain ⟨k, hk, rfl, hB, hR, hO, hW⟩ := hrel
    by_cases hlt : k < 16
    · have h3 := i64_and3 (k : Int) (by omega) (by omega)
      have hj : ∃ j : Nat, j = (k + 4 * (k % 4)) % 16 ∧ bits BinOp.and IntKind.i64 ((k : Int) + 4 * ((k : Int) % 4)) 15 = (j : Int) := ⟨_, rfl, by
        rw [i64_and15 _ (by omega) (by omega)]; omega⟩
      obtain ⟨j, hj, h15⟩ := hj
      have hj16 : j < 16 := by omega
      have hjl : j < l.length := by omega
      have hc := hB.cell (bv_at l j _ (List.getElem?_eq_getElem hjl))
      have hd := hO.cell (bv_at _ k _ (Sx.gens_get _ _ 16 k k hlt))
      rw [if_neg (Nat.lt_irrefl k)] at hd
      have hf := hO.free k
      have HJ := Lib.hid hj
      clear hj
      generalize hx : l[j] = x at hc
      have HX := Lib.hid hx
      clear hx
      go_wp2
      go_roundw
      case rel =>
        refine ⟨k + 1, by omega, by go_num, hB.other (by simp; omega) _, hR.other (by simp) _, ?_, hW.setCell (by simp; omega) _⟩
        rw [← Sx.gens_set, ← bv_set]
        have e : l.getD ((k + 4 * (k % 4)) % 16) 0 = x := by rw [← HJ.out, ← HX.out]; simp [hjl]
        rw [e]
        exact hO.set k _
      case measure => simp [intOf]; omega
    · obtain rfl : k = 16 := by omega
      rw [Sx.gens_all] at hO
      have hs := size93 (Sx.turned l) (Sx.turned_length l)
      go_wp2_with (first | (refine wpList_load_row rfl 93 _ rfl (w.heap.size + 1 + 1) rfl 93 _ (0, 0) _ hO Try.underlying93 rfl hs ?_) | (refine wpList_store_row rfl 93 _ _ rfl (w.heap.size + 1) _ rfl rfl 93 _ hR hs (by simp [bv_size, zeros]) (bv_one _) ?_))
      exact bodyPost_ret (results_cell_row rfl _ _ (w.heap.size + 1) 93 _ (0, 0) _ rfl (hR.row _) Try.underlying93 rfl hs) rfl ⟨rfl, below_setRow hW (by omega) _⟩

theorem with_any (l : List UInt8) (hl : l.length = 16) (s : ByteArray) (hsz : s.size = 16) (w : World) : Calls Try.prog 51 #[.agg (bv l), .string s] w fun e w' => e = .returned (.agg (bv (Sx.withKey l s.data.toList))) ∧ Below w.heap.size w w' := by
  have hmx : Try.prog.toTables.follows .mixedOrders = true := by kernel_rfl
  go_enter Try.func51, Try.ntmps51
  go_wp2
  go_loopw [5, 6] (fun _ i wr => ∃ k : Nat, k ≤ 16 ∧ i = .int .i64 k ∧ Blk wr w.heap.size (bv (Sx.gens (fun i => l.getD i 0 ^^^ s.data.toList.getD i 0) (fun i => l.getD i 0) 16 k)) 93 ∧ Blk wr (w.heap.size + 1) (bv (zeros 16)) 93 ∧ Below w.heap.size w wr)
    (fun _ i _ => 16 - (intOf i).toNat)
  case atStart =>
    refine ⟨0, by omega, rfl, ?_, ?_, ?_⟩
    · rw [Sx.gens_zero, Sx.range_getD _ _ _ hl]; exact (Blk.new _ _ _).alloc _
    · have := Blk.new (w.alloc (Obj.cells (bv l) 93)) (bv (zeros 16)) 93
      rw [World.size_alloc] at this
      exact this
    · exact ((Below.refl _ _).alloc (Nat.le_refl _) _).alloc (by simp) _
  case round =>
    obtain ⟨k, hk, rfl, hB, hR, hW⟩ := hrel
    by_cases hlt : k < 16
    · have hc := hB.cell (bv_at _ k _ (Sx.gens_get _ _ 16 k k hlt))
      rw [if_neg (Nat.lt_irrefl k)] at hc
      have hf := hB.free k
      have hks : k < s.size := by omega
      generalize hx : l.getD k 0 = x at hc
      have HX := Lib.hid hx
      clear hx
      have HL := Lib.hid hsz
      clear hsz
      go_wp2_with (refine wp_tail 8 hmx (by kernel_rfl) ?_; simp only [List.take_succ_cons, List.take_zero, List.drop_succ_cons, List.drop_zero]; (repeat still_step); refine wpStill_nil ?_)
      go_roundw
      case rel =>
        refine ⟨k + 1, by omega, by go_num, ?_, (hR.drew).other (by simp) _, (hW.drew).setCell (Nat.le_refl _) _⟩
        rw [← Sx.gens_set, ← bv_set, HX.out]
        rw [str_getD s k hks]
        exact (hB.drew).set k _
      case measure => simp [intOf]; omega
    · obtain rfl : k = 16 := by omega
      rw [Sx.gens_all] at hB
      have hs := size93 (Sx.withKey l s.data.toList) (Sx.withKey_length l _)
      go_wp2_with (first | (refine wpList_load_row rfl 93 _ rfl w.heap.size rfl 93 _ (0, 0) _ hB Try.underlying93 rfl hs ?_) | (refine wpList_store_row rfl 93 _ _ rfl (w.heap.size + 1) _ rfl rfl 93 _ hR hs (by simp [bv_size, zeros]) (bv_one _) ?_))
      exact bodyPost_ret (results_cell_row rfl _ _ (w.heap.size + 1) 93 _ (0, 0) _ rfl (hR.row _) Try.underlying93 rfl hs) rfl ⟨rfl, below_setRow hW (by omega) _⟩
end Go.Proofs.Ytieooonobjkglaa
namespace Go.Proofs.Ytieooonobjkglaa
open Go Go.Proofs Go.RowKit SW
attribute [local go_sem] U8_xor U8_fold
set_option maxRecDepth 20000
set_option maxHeartbeats 2000000

theorem mixed_any (l : List UInt8) (hl : l.length = 16) (w : World) : Calls Try.prog 54 #[.agg (bv l)] w fun e w' => e = .returned (.agg (bv (Sx.mixed l))) ∧ Below w.heap.size w w' := by
  have hmx : Try.prog.toTables.follows .mixedOrders = true := by kernel_rfl
  have a1 : bits BinOp.and IntKind.i64 1 3 = 1 := by decide
  have a2 : bits BinOp.and IntKind.i64 2 3 = 2 := by decide
  have a3 : bits BinOp.and IntKind.i64 3 3 = 3 := by decide
  have a4 : bits BinOp.and IntKind.i64 4 3 = 0 := by decide
  go_enter Try.func54, Try.ntmps54
  go_wp2
  go_loopw [3, 4, 5, 6] (fun i _ _ _ wr => ∃ k : Nat, k ≤ 4 ∧ i = .int .i64 (4 * (k : Int)) ∧ Blk wr w.heap.size (bv (Sx.gens (Sx.mix1 l) (fun i => l.getD i 0) 16 (4 * k))) 93 ∧ Blk wr (w.heap.size + 1) (bv (zeros 16)) 93 ∧ Below w.heap.size w wr)
    (fun i _ _ _ _ => 16 - (intOf i).toNat)
  case atStart =>
    refine ⟨0, by omega, rfl, ?_, ?_, ?_⟩
    · rw [Sx.gens_zero, Sx.range_getD _ _ _ hl]; exact (Blk.new _ _ _).alloc _
    · have := Blk.new (w.alloc (Obj.cells (bv l) 93)) (bv (zeros 16)) 93
      rw [World.size_alloc] at this
      exact this
    · exact ((Below.refl _ _).alloc (Nat.le_refl _) _).alloc (by simp) _
  case round =>
    obtain ⟨k, hk, rfl, hB, hR, hW⟩ := hrel
    by_cases hlt : k < 4
    · have c0 := hB.cell (bv_at _ (4 * k) _ (Sx.gens_get _ _ 16 (4 * k) (4 * k) (by omega)))
      have c1 := hB.cell (bv_at _ (4 * k + 1) _ (Sx.gens_get _ _ 16 (4 * k) (4 * k + 1) (by omega)))
      have c2 := hB.cell (bv_at _ (4 * k + 2) _ (Sx.gens_get _ _ 16 (4 * k) (4 * k + 2) (by omega)))
      have c3 := hB.cell (bv_at _ (4 * k + 3) _ (Sx.gens_get _ _ 16 (4 * k) (4 * k + 3) (by omega)))
      rw [if_neg (by omega)] at c0 c1 c2 c3
      have f0 := hB.free (4 * k)
      have f1 := hB.free (4 * k + 1)
      have f2 := hB.free (4 * k + 2)
      have f3 := hB.free (4 * k + 3)
      have hsl : ∀ W, (Instr.sliceAt 93 (.pointer (some ⟨w.heap.size, 0, none⟩)) (some (.int .i64 (4 * (k : Int)))) (some (.int .i64 (4 * (k : Int) + 4))) none).run Try.prog W = .ok (.slice (some ⟨w.heap.size, 4 * k, none⟩) 4 (16 - 4 * k)) W := fun W => by
        have := slice_arr (P := Try.prog) 93 5 16 w.heap.size (4 * k) (4 * k + 4) (4 * (k : Int)) (4 * (k : Int) + 4) (by omega) (by omega) Try.underlying93 (fun _ => by kernel_rfl) (by omega) (by omega) (by omega) W
        rw [this]; congr 2; omega
      have har : ∀ W, (Instr.arrayAt 143 (.slice (some ⟨w.heap.size, 4 * k, none⟩) 4 (16 - 4 * k))).run Try.prog W = .ok (.pointer (some ⟨w.heap.size, 4 * k, none⟩)) W := fun W => run_arrayAt (w := W) 143 5 4 _ 4 _ Try.underlying143 (by omega)
      generalize hx0 : l.getD (4 * k) 0 = x0 at c0
      generalize hx1 : l.getD (4 * k + 1) 0 = x1 at c1
      generalize hx2 : l.getD (4 * k + 2) 0 = x2 at c2
      generalize hx3 : l.getD (4 * k + 3) 0 = x3 at c3
      have X0 := Lib.hid hx0
      have X1 := Lib.hid hx1
      have X2 := Lib.hid hx2
      have X3 := Lib.hid hx3
      clear hx0 hx1 hx2 hx3
      have hlt0 := hB.lt
      have r1 : (0 : Int) ≤ 4 * (k : Int) + 1 := by omega
      have s1 : 4 * (k : Int) + 1 < 16 := by omega
      have r2 : (0 : Int) ≤ 4 * (k : Int) + 2 := by omega
      have s2 : 4 * (k : Int) + 2 < 16 := by omega
      have r3 : (0 : Int) ≤ 4 * (k : Int) + 3 := by omega
      have s3 : 4 * (k : Int) + 3 < 16 := by omega
      have r0 : (0 : Int) ≤ 4 * (k : Int) := by omega
      have s0 : 4 * (k : Int) < 16 := by omega
      have l1 : IntKind.i64.wrap 1 = 1 := IntWalk.i64_in _ (by omega)
      have l2 : IntKind.i64.wrap 2 = 2 := IntWalk.i64_in _ (by omega)
      have l3 : IntKind.i64.wrap 3 = 3 := IntWalk.i64_in _ (by omega)
      have l4 : IntKind.i64.wrap 4 = 4 := IntWalk.i64_in _ (by omega)
      have w0 : IntKind.i64.wrap (4 * (k : Int)) = 4 * (k : Int) := IntWalk.i64_in _ (by omega)
      have w1 : IntKind.i64.wrap (4 * (k : Int) + 1) = 4 * (k : Int) + 1 := IntWalk.i64_in _ (by omega)
      have w2 : IntKind.i64.wrap (4 * (k : Int) + 2) = 4 * (k : Int) + 2 := IntWalk.i64_in _ (by omega)
      have w3 : IntKind.i64.wrap (4 * (k : Int) + 3) = 4 * (k : Int) + 3 := IntWalk.i64_in _ (by omega)
      have t0 : (4 * (k : Int)).toNat = 4 * k := by omega
      have t1 : (4 * (k : Int) + 1).toNat = 4 * k + 1 := by omega
      have t2 : (4 * (k : Int) + 2).toNat = 4 * k + 2 := by omega
      have t3 : (4 * (k : Int) + 3).toNat = 4 * k + 3 := by omega
      go_wp2
      refine wp_loop_rounds 5 ?_
      iterate 5
        rw [rounds_succ]
        go_wp2_with (refine wp_tail 19 hmx (by kernel_rfl) ?_; simp only [List.take_succ_cons, List.take_zero, List.drop_succ_cons, List.drop_zero]; (repeat still_step); still_call ((mul_any _ 2 _).mono fun _ _ h => ⟨h.1, h.2.symm⟩); (repeat still_step); refine wpStill_nil ?_)
      go_roundw
      case rel =>
        refine ⟨k + 1, by omega, by go_num, ?_, (((((hR.other (by simp) _).other (by simp) _).other (by simp) _).other (by simp) _).alloc _), ?_⟩
        · have := ((((hB.set (4 * k) (.int .u8 (U8 (x0 ^^^ (x0 ^^^ x1 ^^^ x2 ^^^ x3 ^^^ Sx.mul (x0 ^^^ x1) 2))))).set (4 * k + 1) (.int .u8 (U8 (x1 ^^^ (x0 ^^^ x1 ^^^ x2 ^^^ x3 ^^^ Sx.mul (x1 ^^^ x2) 2))))).set (4 * k + 2) (.int .u8 (U8 (x2 ^^^ (x0 ^^^ x1 ^^^ x2 ^^^ x3 ^^^ Sx.mul (x2 ^^^ x3) 2))))).set (4 * k + 3) (.int .u8 (U8 (x3 ^^^ (x0 ^^^ x1 ^^^ x2 ^^^ x3 ^^^ Sx.mul (x3 ^^^ x0) 2))))).alloc (Obj.cells #[Value.int IntKind.u8 (U8 x0), Value.int IntKind.u8 (U8 x1), Value.int IntKind.u8 (U8 x2), Value.int IntKind.u8 (U8 x3)] 143)
          rw [bv_set, bv_set, bv_set, bv_set, Sx.mix4 l k x0 x1 x2 x3 X0.out X1.out X2.out X3.out] at this
          exact this
        · exact (((((hW.setCell (p := ⟨w.heap.size, 4 * k, none⟩) (Nat.le_refl _) _).setCell (p := ⟨w.heap.size, 4 * k + 1, none⟩) (Nat.le_refl _) _).setCell (p := ⟨w.heap.size, 4 * k + 2, none⟩) (Nat.le_refl _) _).setCell (p := ⟨w.heap.size, 4 * k + 3, none⟩) (Nat.le_refl _) _).alloc (by simp; omega) _).drew.drew.drew.drew
      case measure => simp [intOf]; omega
    · obtain rfl : k = 4 := by omega
      rw [Sx.gens_all] at hB
      have hs := size93 (Sx.mixed l) (Sx.mixed_length l)
      go_wp2_with (first | (refine wpList_load_row rfl 93 _ rfl w.heap.size rfl 93 _ (0, 0) _ hB Try.underlying93 rfl hs ?_) | (refine wpList_store_row rfl 93 _ _ rfl (w.heap.size + 1) _ rfl rfl 93 _ hR hs (by simp [bv_size, zeros]) (bv_one _) ?_))
      exact bodyPost_ret (results_cell_row rfl _ _ (w.heap.size + 1) 93 _ (0, 0) _ rfl (hR.row _) Try.underlying93 rfl hs) rfl ⟨rfl, below_setRow hW (by omega) _⟩
end Go.Proofs.Ytieooonobjkglaa
namespace Go.Proofs.Ytieooonobjkglaa
open Go Go.Proofs Go.RowKit SW
attribute [local go_sem] U8_xor U8_fold
set_option maxRecDepth 20000
set_option maxHeartbeats 2000000

theorem rounds_any (s : List UInt8) (hs : s.length = 16) (n : Nat) (kb : Nat → ByteArray) (bk g cap : Nat) (hn : 2 ≤ n) (hn2 : n ≤ 100) (hk : ∀ j, j < n → (kb j).size = 16) (w : World)
    (hbk : w.cell? ⟨bk, 0, none⟩ = some (.slice (some ⟨g, 0, none⟩) n cap)) (hcap : n ≤ cap) (hst : ∀ j, j < n → w.cell? ⟨g, j, none⟩ = some (.string (kb j))) :
    Calls Try.prog 50 #[.agg (bv s), .pointer (some ⟨bk, 0, none⟩)] w fun e w' => e = .returned (.agg (bv (Sx.crypt n (fun j => (kb j).data.toList) s))) ∧ Below w.heap.size w w' := by
  have hmx : Try.prog.toTables.follows .mixedOrders = true := by kernel_rfl
  have hb0 := World.block_lt_of_cell? w _ hbk
  have hg0 := hst 0 (by omega)
  have hgl := World.block_lt_of_cell? w _ hg0
  have hpos : 0 < n := by omega
  have hcap1 : ¬ cap = 1 := by omega
  have hcap2 : (1 : Int) ≤ n := by omega
  go_enter Try.func50, Try.ntmps50
  go_wp2
  have ez : (#[Value.int IntKind.u8 0, Value.int IntKind.u8 0, Value.int IntKind.u8 0, Value.int IntKind.u8 0, Value.int IntKind.u8 0, Value.int IntKind.u8 0, Value.int IntKind.u8 0, Value.int IntKind.u8 0, Value.int IntKind.u8 0, Value.int IntKind.u8 0, Value.int IntKind.u8 0, Value.int IntKind.u8 0, Value.int IntKind.u8 0, Value.int IntKind.u8 0, Value.int IntKind.u8 0, Value.int IntKind.u8 0] : Array Value) = bv (zeros 16) := rfl
  rw [ez]
  have hB : Blk ((w.alloc (Obj.cells (bv s) 93)).alloc (Obj.cells (bv (zeros 16)) 93)) w.heap.size (bv s) 93 := (Blk.new _ _ _).alloc _
  have hR : Blk ((w.alloc (Obj.cells (bv s) 93)).alloc (Obj.cells (bv (zeros 16)) 93)) (w.heap.size + 1) (bv (zeros 16)) 93 := by
    have := Blk.new (w.alloc (Obj.cells (bv s) 93)) (bv (zeros 16)) 93
    rw [World.size_alloc] at this
    exact this
  have hW : Below w.heap.size w ((w.alloc (Obj.cells (bv s) 93)).alloc (Obj.cells (bv (zeros 16)) 93)) := ((Below.refl _ _).alloc (Nat.le_refl _) _).alloc (by simp) _
  generalize (w.alloc (Obj.cells (bv s) 93)).alloc (Obj.cells (bv (zeros 16)) 93) = W0 at hB hR hW ⊢
  have c1 := (hW.cell (p := ⟨bk, 0, none⟩) hb0).trans hbk
  have c2 := (hW.cell (p := ⟨g, 0, none⟩) hgl).trans hg0
  go_wp2_with (first
    | (refine wp_tail 4 hmx (by kernel_rfl) ?_; simp only [List.take_succ_cons, List.take_zero, List.drop_succ_cons, List.drop_zero]; refine still_load_blk rfl 93 _ rfl w.heap.size rfl 93 _ _ hB.drew Try.underlying93 rfl (size93 s hs) ?_; (repeat still_step); refine wpStill_nil ?_)
    | (go_at_call 51; refine (with_any s hs _ (hk 0 hpos) _).mono ?_; rintro e w1 ⟨rfl, hb1⟩; have hB1 := (hB.drew).below hb1 hB.lt; have hR1 := (hR.drew).below hb1 hR.lt; have hW1 := hW.drew.trans (hb1.mono hW.size))
    | (refine wpList_store_row rfl 93 _ _ rfl w.heap.size _ rfl rfl 93 _ hB1 (size93 _ (Sx.withKey_length _ _)) (by simp [bv_size, hs, Sx.withKey_length]) (bv_one _) ?_; have hB2 := hB1.row (bv (Sx.withKey s (kb 0).data.toList)); have hR2 := hR1.otherRow (b' := w.heap.size) (by omega) (bv (Sx.withKey s (kb 0).data.toList)); have hW2 := below_setRow hW1 (Nat.le_refl _) (bv (Sx.withKey s (kb 0).data.toList)); generalize w1.setRow w.heap.size (bv (Sx.withKey s (kb 0).data.toList)) = W2 at hB2 hR2 hW2 ⊢; clear hB1 hR1 hW1 hb1 hB hR hW c1 c2; have c1 := (hW2.cell (p := ⟨bk, 0, none⟩) hb0).trans hbk))
  clear hg0 hgl
  go_loopw [4, 5, 14] (fun _ _ t wr => ∃ i : Nat, i ≤ n - 1 ∧ t = .int .i64 i ∧ Blk wr w.heap.size (bv (Sx.rounds n (fun j => (kb j).data.toList) (Sx.withKey s (kb 0).data.toList) i)) 93 ∧ Blk wr (w.heap.size + 1) (bv (zeros 16)) 93 ∧ Below w.heap.size w wr)
    (fun _ _ t _ => n - 1 - (intOf t).toNat)
  case atStart => exact ⟨0, by omega, rfl, hB2, hR2, hW2⟩
  case round =>
    clear hB2 hR2 hW2 c1
    obtain ⟨i, hi, rfl, hB, hR, hW⟩ := hrel
    have HL : (Sx.rounds n (fun j => (kb j).data.toList) (Sx.withKey s (kb 0).data.toList) i).length = 16 := Sx.rounds_length _ _ _ (Sx.withKey_length _ _) _
    by_cases hlt : i < n - 1
    · have hr : Sx.rounds n (fun j => (kb j).data.toList) (Sx.withKey s (kb 0).data.toList) (i + 1) = Sx.rnd n (Sx.rounds n (fun j => (kb j).data.toList) (Sx.withKey s (kb 0).data.toList) i) i (kb (i + 1)).data.toList := rfl
      generalize Sx.rounds n (fun j => (kb j).data.toList) (Sx.withKey s (kb 0).data.toList) i = l at hB HL hr
      have HR := Lib.hid hr
      clear hr
      have c3 := hst (1 + i) (by omega)
      have hg := World.block_lt_of_cell? w _ c3
      have hkk := hk (1 + i) (by omega)
      replace c3 := (hW.cell (p := ⟨g, 1 + i, none⟩) hg).trans c3
      have c1 := (hW.cell (p := ⟨bk, 0, none⟩) hb0).trans hbk
      by_cases hm : i + 2 < n
      · have t1 : (i : Int) < (n : Int) - 2 := by omega
        replace hm := Lib.hid hm
        go_wp2_with (first
          | (refine wpList_load_row rfl 93 _ rfl w.heap.size rfl 93 _ (0, 0) _ hB Try.underlying93 rfl (size93 _ HL) ?_)
          | (go_at_call 52; refine (boxed_any _ HL _).mono ?_; rintro e w1 ⟨rfl, hb⟩; replace hB := hB.below hb hB.lt; replace hR := hR.below hb hR.lt; replace hW := hW.trans (hb.mono hW.size); clear hb; replace c1 := (hW.cell (p := ⟨bk, 0, none⟩) hb0).trans hbk)
          | (go_at_call 53; refine (turned_any _ (by rw [List.length_map, HL]) _).mono ?_; rintro e w2 ⟨rfl, hb⟩; replace hB := hB.below hb hB.lt; replace hR := hR.below hb hR.lt; replace hW := hW.trans (hb.mono hW.size); clear hb; replace c1 := (hW.cell (p := ⟨bk, 0, none⟩) hb0).trans hbk)
          | (refine wpList_store_row rfl 93 _ _ rfl w.heap.size (bv (Sx.turned (l.map Sx.box))) rfl rfl 93 _ hB (size93 _ (Sx.turned_length (l.map Sx.box))) (by rw [bv_size, bv_size, HL, Sx.turned_length (l.map Sx.box)]) (bv_one _) ?_; replace hB := hB.row (bv (Sx.turned (l.map Sx.box))); replace hR := hR.otherRow (b' := w.heap.size) (by omega) (bv (Sx.turned (l.map Sx.box))); replace hW := below_setRow hW (Nat.le_refl _) (bv (Sx.turned (l.map Sx.box))); replace HL := Sx.turned_length (l.map Sx.box); replace c1 := (hW.cell (p := ⟨bk, 0, none⟩) hb0).trans hbk; generalize World.setRow _ w.heap.size (bv (Sx.turned (l.map Sx.box))) = W3 at hB hR hW c1 ⊢)
          | (go_at_call 54; refine (mixed_any _ HL _).mono ?_; rintro e w4 ⟨rfl, hb⟩; replace hB := hB.below hb hB.lt; replace hR := hR.below hb hR.lt; replace hW := hW.trans (hb.mono hW.size); clear hb; replace c1 := (hW.cell (p := ⟨bk, 0, none⟩) hb0).trans hbk)
          | (refine wpList_store_row rfl 93 _ _ rfl w.heap.size (bv (Sx.mixed (Sx.turned (l.map Sx.box)))) rfl rfl 93 _ hB (size93 _ (Sx.mixed_length (Sx.turned (l.map Sx.box)))) (by rw [bv_size, bv_size, HL, Sx.mixed_length (Sx.turned (l.map Sx.box))]) (bv_one _) ?_; replace hB := hB.row (bv (Sx.mixed (Sx.turned (l.map Sx.box)))); replace hR := hR.otherRow (b' := w.heap.size) (by omega) (bv (Sx.mixed (Sx.turned (l.map Sx.box)))); replace hW := below_setRow hW (Nat.le_refl _) (bv (Sx.mixed (Sx.turned (l.map Sx.box)))); replace HL := Sx.mixed_length (Sx.turned (l.map Sx.box)); replace c1 := (hW.cell (p := ⟨bk, 0, none⟩) hb0).trans hbk; generalize World.setRow _ w.heap.size (bv (Sx.mixed (Sx.turned (l.map Sx.box)))) = W3 at hB hR hW c1 ⊢)
          | (go_at_call 51; refine (with_any _ HL _ hkk _).mono ?_; rintro e w6 ⟨rfl, hb⟩; replace hB := hB.below hb hB.lt; replace hR := hR.below hb hR.lt; replace hW := hW.trans (hb.mono hW.size); clear hb; replace c1 := (hW.cell (p := ⟨bk, 0, none⟩) hb0).trans hbk)
          | (refine wpList_store_row rfl 93 _ _ rfl w.heap.size (bv (Sx.withKey (Sx.mixed (Sx.turned (l.map Sx.box))) (kb (1 + i)).data.toList)) rfl rfl 93 _ hB (size93 _ (Sx.withKey_length (Sx.mixed (Sx.turned (l.map Sx.box))) (kb (1 + i)).data.toList)) (by rw [bv_size, bv_size, HL, Sx.withKey_length (Sx.mixed (Sx.turned (l.map Sx.box))) (kb (1 + i)).data.toList]) (bv_one _) ?_; replace hB := hB.row (bv (Sx.withKey (Sx.mixed (Sx.turned (l.map Sx.box))) (kb (1 + i)).data.toList)); replace hR := hR.otherRow (b' := w.heap.size) (by omega) (bv (Sx.withKey (Sx.mixed (Sx.turned (l.map Sx.box))) (kb (1 + i)).data.toList)); replace hW := below_setRow hW (Nat.le_refl _) (bv (Sx.withKey (Sx.mixed (Sx.turned (l.map Sx.box))) (kb (1 + i)).data.toList)); replace HL := Sx.withKey_length (Sx.mixed (Sx.turned (l.map Sx.box))) (kb (1 + i)).data.toList; replace c1 := (hW.cell (p := ⟨bk, 0, none⟩) hb0).trans hbk; generalize World.setRow _ w.heap.size (bv (Sx.withKey (Sx.mixed (Sx.turned (l.map Sx.box))) (kb (1 + i)).data.toList)) = W3 at hB hR hW c1 ⊢))
        go_roundw
        case rel =>
          refine ⟨i + 1, by omega, by go_num, ?_, hR, hW⟩
          rw [HR.out, Sx.rnd, if_pos hm.out, Nat.add_comm i 1]
          exact hB
        case measure => simp [intOf]; omega
      · have t1 : ¬ ((i : Int) < (n : Int) - 2) := by omega
        replace hm := Lib.hid hm
        go_wp2_with (first
          | (refine wpList_load_row rfl 93 _ rfl w.heap.size rfl 93 _ (0, 0) _ hB Try.underlying93 rfl (size93 _ HL) ?_)
          | (go_at_call 52; refine (boxed_any _ HL _).mono ?_; rintro e w1 ⟨rfl, hb⟩; replace hB := hB.below hb hB.lt; replace hR := hR.below hb hR.lt; replace hW := hW.trans (hb.mono hW.size); clear hb; replace c1 := (hW.cell (p := ⟨bk, 0, none⟩) hb0).trans hbk)
          | (go_at_call 53; refine (turned_any _ (by rw [List.length_map, HL]) _).mono ?_; rintro e w2 ⟨rfl, hb⟩; replace hB := hB.below hb hB.lt; replace hR := hR.below hb hR.lt; replace hW := hW.trans (hb.mono hW.size); clear hb; replace c1 := (hW.cell (p := ⟨bk, 0, none⟩) hb0).trans hbk)
          | (refine wpList_store_row rfl 93 _ _ rfl w.heap.size (bv (Sx.turned (l.map Sx.box))) rfl rfl 93 _ hB (size93 _ (Sx.turned_length (l.map Sx.box))) (by rw [bv_size, bv_size, HL, Sx.turned_length (l.map Sx.box)]) (bv_one _) ?_; replace hB := hB.row (bv (Sx.turned (l.map Sx.box))); replace hR := hR.otherRow (b' := w.heap.size) (by omega) (bv (Sx.turned (l.map Sx.box))); replace hW := below_setRow hW (Nat.le_refl _) (bv (Sx.turned (l.map Sx.box))); replace HL := Sx.turned_length (l.map Sx.box); replace c1 := (hW.cell (p := ⟨bk, 0, none⟩) hb0).trans hbk; generalize World.setRow _ w.heap.size (bv (Sx.turned (l.map Sx.box))) = W3 at hB hR hW c1 ⊢)
          | (go_at_call 51; refine (with_any _ HL _ hkk _).mono ?_; rintro e w6 ⟨rfl, hb⟩; replace hB := hB.below hb hB.lt; replace hR := hR.below hb hR.lt; replace hW := hW.trans (hb.mono hW.size); clear hb; replace c1 := (hW.cell (p := ⟨bk, 0, none⟩) hb0).trans hbk)
          | (refine wpList_store_row rfl 93 _ _ rfl w.heap.size (bv (Sx.withKey (Sx.turned (l.map Sx.box)) (kb (1 + i)).data.toList)) rfl rfl 93 _ hB (size93 _ (Sx.withKey_length (Sx.turned (l.map Sx.box)) (kb (1 + i)).data.toList)) (by rw [bv_size, bv_size, HL, Sx.withKey_length (Sx.turned (l.map Sx.box)) (kb (1 + i)).data.toList]) (bv_one _) ?_; replace hB := hB.row (bv (Sx.withKey (Sx.turned (l.map Sx.box)) (kb (1 + i)).data.toList)); replace hR := hR.otherRow (b' := w.heap.size) (by omega) (bv (Sx.withKey (Sx.turned (l.map Sx.box)) (kb (1 + i)).data.toList)); replace hW := below_setRow hW (Nat.le_refl _) (bv (Sx.withKey (Sx.turned (l.map Sx.box)) (kb (1 + i)).data.toList)); replace HL := Sx.withKey_length (Sx.turned (l.map Sx.box)) (kb (1 + i)).data.toList; replace c1 := (hW.cell (p := ⟨bk, 0, none⟩) hb0).trans hbk; generalize World.setRow _ w.heap.size (bv (Sx.withKey (Sx.turned (l.map Sx.box)) (kb (1 + i)).data.toList)) = W3 at hB hR hW c1 ⊢))
        go_roundw
        case rel =>
          refine ⟨i + 1, by omega, by go_num, ?_, hR, hW⟩
          rw [HR.out, Sx.rnd, if_neg hm.out, Nat.add_comm i 1]
          exact hB
        case measure => simp [intOf]; omega
    · obtain rfl : i = n - 1 := by omega
      have hs9 := size93 _ HL
      go_wp2_with (first
        | (refine wpList_load_row rfl 93 _ rfl w.heap.size rfl 93 _ (0, 0) _ hB Try.underlying93 rfl (size93 _ HL) ?_)
        | (refine wpList_store_row rfl 93 _ _ rfl (w.heap.size + 1) _ rfl rfl 93 _ hR hs9 (by rw [bv_size, bv_size, HL]; rfl) (bv_one _) ?_))
      exact bodyPost_ret (results_cell_row rfl _ _ (w.heap.size + 1) 93 _ (0, 0) _ rfl (hR.row _) Try.underlying93 rfl hs9) rfl ⟨rfl, below_setRow hW (by omega) _⟩
end Go.Proofs.Ytieooonobjkglaa
namespace Go.Proofs.Ytieooonobjkglaa
open Go Go.Proofs Go.RowKit SW
attribute [local go_sem] U8_xor U8_fold
set_option maxRecDepth 20000
set_option maxHeartbeats 2000000

theorem done_any (s : ByteArray) (hs : s.size = 16) (n : Nat) (kb : Nat → ByteArray) (bk g cap : Nat) (hn : 2 ≤ n) (hn2 : n ≤ 100) (hk : ∀ j, j < n → (kb j).size = 16) (w : World)
    (hbk : w.cell? ⟨bk, 0, none⟩ = some (.slice (some ⟨g, 0, none⟩) n cap)) (hcap : n ≤ cap) (hst : ∀ j, j < n → w.cell? ⟨g, j, none⟩ = some (.string (kb j))) :
    Calls Try.prog 49 #[.string s, .func (.func 50) #[] #[.pointer (some ⟨bk, 0, none⟩)]] w fun e w' => e = .returned (.tuple #[.string ⟨(Sx.crypt n (fun j => (kb j).data.toList) s.data.toList).toArray⟩, .int .i64 0]) ∧ Below w.heap.size w w' := by
  have hconv := run_bytes_of_string w 9 32 5 s Try.underlying9 Try.underlying32 Try.underlying5
  generalize hcp : grownCap w s.size 0 5 = cp at hconv
  generalize hbr : bytesRow s cp = br at hconv
  have hnew := heap_alloc_new w.drew (Obj.cells br 5 (br.size, br.size + 1))
  have hW := (Below.refl w.heap.size w).drew.alloc (Nat.le_refl _) (Obj.cells br 5 (br.size, br.size + 1))
  generalize w.drew.alloc (Obj.cells br 5 (br.size, br.size + 1)) = W0 at hconv hnew hW
  rw [← hbr] at hnew
  have hrg := bytes_range s W0 w.heap.size cp _ _ hnew
  have har : ∀ W, (Instr.arrayAt 93 (.slice (some ⟨w.heap.size, 0, none⟩) s.size cp)).run Try.prog W = .ok (.pointer (some ⟨w.heap.size, 0, none⟩)) W := fun W => run_arrayAt (w := W) 93 5 16 _ _ _ Try.underlying93 (by omega)
  have hb0 := World.block_lt_of_cell? w _ hbk
  have c1 := (hW.cell (p := ⟨bk, 0, none⟩) hb0).trans hbk
  have cst : ∀ j, j < n → W0.cell? ⟨g, j, none⟩ = some (.string (kb j)) := fun j hj => (hW.cell (p := ⟨g, j, none⟩) (World.block_lt_of_cell? w _ (hst j hj))).trans (hst j hj)
  have hlen : s.data.toList.length = 16 := by simpa using hs
  have hne : ((s.size : Int) != 16) = false := by rw [bne_eq_false_iff_eq]; omega
  have CST := Lib.hid cst
  have HST := Lib.hid hst
  have HLEN := Lib.hid hlen
  have HC := Lib.hid (Sx.rounds_length n (fun j => (kb j).data.toList) (Sx.withKey s.data.toList (kb 0).data.toList) (Sx.withKey_length _ _) (n - 1))
  change Hid ((Sx.crypt n (fun j => (kb j).data.toList) s.data.toList).length = 16) at HC
  have HS := Lib.hid hs
  clear cst hst hbr hcp hlen hs hnew
  go_enter Try.func49, Try.ntmps49
  go_wp2_with (first
    | (refine wpList_load_mid rfl 93 _ rfl w.heap.size 0 rfl (bv s.data.toList).toList _ hrg Try.underlying93 rfl (by rw [Array.length_toList, bv_size, HLEN.out]; kernel_rfl) ?_)
    | (go_at_call 50; refine (rounds_any _ HLEN.out n kb bk g cap hn hn2 hk _ c1 hcap CST.out).mono ?_; rintro e w1 ⟨rfl, hb⟩)
    | (refine wpList_store_row rfl 93 _ _ rfl w1.heap.size _ rfl rfl 93 #[Value.int IntKind.u8 0, Value.int IntKind.u8 0, Value.int IntKind.u8 0, Value.int IntKind.u8 0, Value.int IntKind.u8 0, Value.int IntKind.u8 0, Value.int IntKind.u8 0, Value.int IntKind.u8 0, Value.int IntKind.u8 0, Value.int IntKind.u8 0, Value.int IntKind.u8 0, Value.int IntKind.u8 0, Value.int IntKind.u8 0, Value.int IntKind.u8 0, Value.int IntKind.u8 0, Value.int IntKind.u8 0] (heap_alloc_new w1 _) (size93 _ HC.out) (by rw [bv_size, HC.out]; rfl) (bv_one _) ?_;
       have hB := (Blk.new w1 #[Value.int IntKind.u8 0, Value.int IntKind.u8 0, Value.int IntKind.u8 0, Value.int IntKind.u8 0, Value.int IntKind.u8 0, Value.int IntKind.u8 0, Value.int IntKind.u8 0, Value.int IntKind.u8 0, Value.int IntKind.u8 0, Value.int IntKind.u8 0, Value.int IntKind.u8 0, Value.int IntKind.u8 0, Value.int IntKind.u8 0, Value.int IntKind.u8 0, Value.int IntKind.u8 0, Value.int IntKind.u8 0] 93).row (bv (Sx.crypt n (fun j => (kb j).data.toList) s.data.toList));
       have hW2 := below_setRow ((hW.trans (hb.mono hW.size)).alloc (Nat.le_trans hW.size hb.size) (Obj.cells #[Value.int IntKind.u8 0, Value.int IntKind.u8 0, Value.int IntKind.u8 0, Value.int IntKind.u8 0, Value.int IntKind.u8 0, Value.int IntKind.u8 0, Value.int IntKind.u8 0, Value.int IntKind.u8 0, Value.int IntKind.u8 0, Value.int IntKind.u8 0, Value.int IntKind.u8 0, Value.int IntKind.u8 0, Value.int IntKind.u8 0, Value.int IntKind.u8 0, Value.int IntKind.u8 0, Value.int IntKind.u8 0] 93)) (b := w1.heap.size) (Nat.le_trans hW.size hb.size) (bv (Sx.crypt n (fun j => (kb j).data.toList) s.data.toList));
       generalize World.setRow _ w1.heap.size (bv (Sx.crypt n (fun j => (kb j).data.toList) s.data.toList)) = W2 at hB hW2 ⊢;
       have hback := bytes_back 32 9 5 Try.underlying32 Try.underlying5 Try.underlying9 hB 16 16 HC.out))
  go_ret2
  exact ⟨rfl, hW2⟩
end Go.Proofs.Ytieooonobjkglaa
