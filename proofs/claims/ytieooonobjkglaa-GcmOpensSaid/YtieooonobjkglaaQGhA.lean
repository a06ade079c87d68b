/- The contracts of GHASH's numbers: word, bytes, of, block, bit, raised, times. No condition on the world. -/
import Derived.Test.YtieooonobjkglaaQPure
import Derived.Test.YtieooonobjkglaaQAes
import Derived.Test.YtieooonobjkglaaQMem
import Derived.Test.YtieooonobjkglaaQHold
namespace Go.Proofs.Ytieooonobjkglaa
open Go Go.Proofs Go.RowKit SW
set_option maxRecDepth 20000
set_option maxHeartbeats 4000000
section
attribute [local go_sem] U64_wshl8 U64_wshl63 U64_w8 U8_of64 U64_shl8 U64_or8 U64_shl63 U64_shr1 U64_mod256 U64_and1 U64_beq1 U64_xorE1 U64_xor U64_or
theorem hz8 : ∀ w, (Go.sizeOf 5).run Try.prog w = .ok 1 w := fun w => by
  obtain ⟨i8, e8, z8, s8, b8⟩ := info_parts (show (Try.prog.info? 5).map (fun i => (i.zero, i.size, i.bytes)) = some (some (.int .u8 0), 1, 1) by kernel_rfl)
  simp [Go.sizeOf, typeInfo, e8, s8]
theorem word_any (s : ByteArray) (hs : 8 ≤ s.size) (w : World) : Calls Try.prog 146 #[.string s] w fun e w' => e = .returned (.int .u64 (U64 (Sx.word s.data.toList))) ∧ Below w.heap.size w w' := by
  have hex : (s.extract 0 8).size = 8 := by simp; omega
  have hl8 : (s.extract 0 8).data.toList = s.data.toList.take 8 := by simp [ByteArray.data_extract]
  have hsl : ∀ W, (Instr.slice 9 (.string s) none (some (.int .i64 8)) none).run Try.prog W = .ok (.string (s.extract 0 8)) W := fun W => by
    rw [run_slice_string_h (ht := Try.underlying9) (h0 := by omega) (h2 := by omega)]
    rfl
  unfold Sx.word
  rw [← hl8]
  generalize s.extract 0 8 = t at hex hsl
  have hconv := run_bytes_of_string w 9 32 5 t Try.underlying9 Try.underlying32 Try.underlying5
  have hO := Own.of_bytes (base := w.heap.size) t w 5 (grownCap w t.size 0 5) (grownCap_ge _ _ _ _) (Nat.le_refl _)
  have hW := (Below.refl w.heap.size w).drew.alloc (Nat.le_refl _) (Obj.cells (bytesRow t (grownCap w t.size 0 5)) 5 ((bytesRow t (grownCap w t.size 0 5)).size, (bytesRow t (grownCap w t.size 0 5)).size + 1))
  generalize hW0 : w.drew.alloc (Obj.cells (bytesRow t (grownCap w t.size 0 5)) 5 ((bytesRow t (grownCap w t.size 0 5)).size, (bytesRow t (grownCap w t.size 0 5)).size + 1)) = W0 at hconv hO hW
  clear hW0
  have hlen : t.data.toList.length = 8 := by simpa using hex
  rw [hex] at hconv hO
  have HLEN := Lib.hid hlen
  have HEX := Lib.hid hex
  clear hlen hex hl8 hs
  generalize grownCap w 8 0 5 = cp0 at hconv hO ⊢
  generalize t.data.toList = l at hO HLEN ⊢
  go_enter Try.func146, Try.ntmps146
  go_wp2
  go_loop [3, 5, 10] (fun ov _ iv => ∃ k : Nat, k ≤ 8 ∧ iv = .int .i64 k ∧ ov = .int .u64 (U64 (Sx.wordOf (l.take k))))
    (fun _ _ iv => 8 - (intOf iv).toNat)
  case atStart => exact ⟨0, by omega, rfl, rfl⟩
  case round =>
    obtain ⟨k, hk, rfl, rfl⟩ := hrel
    by_cases hlt : k < 8
    · have hc := hO.cells k _ (bvl_get l k (by rw [HLEN.out]; exact hlt))
      have hsx := Sx.wordOf_succ l k (by rw [HLEN.out]; exact hlt)
      have HS := Lib.hid hsx
      generalize l.getD k 0 = x at hc HS
      clear hsx
      generalize Sx.wordOf (l.take k) = y at HS ⊢
      go_wp2
      go_round
      case rel =>
        refine ⟨k + 1, by omega, by go_num, ?_⟩
        rw [HS.out]
      case measure => simp [intOf]; omega
    · obtain rfl : k = 8 := by omega
      rw [List.take_of_length_le (by rw [HLEN.out]; omega)]
      go_wp2
      go_ret
      exact ⟨rfl, hW⟩

theorem bytes_any (n : UInt64) (w : World) : Calls Try.prog 149 #[.int .u64 (U64 n)] w fun e w' => e = .returned (.string ⟨(Sx.nums n).toArray⟩) ∧ Below w.heap.size w w' := by
  go_enter Try.func149, Try.ntmps149
  go_wp2
  go_loopw [4, 5] (fun _ iv wr => ∃ k : Nat, k ≤ 8 ∧ iv = .int .i64 k ∧ Blk wr w.heap.size (bv (Sx.gens (Sx.num n) (fun _ => 0) 8 k)) 207 ∧ Below w.heap.size w wr)
    (fun _ iv _ => 8 - (intOf iv).toNat)
  case atStart =>
    refine ⟨0, by omega, rfl, ?_, (Below.refl _ _).alloc (Nat.le_refl _) _⟩
    rw [Sx.gens_zero]
    exact Blk.new _ _ _
  case round =>
    obtain ⟨k, hk, rfl, hB, hW⟩ := hrel
    by_cases hlt : k < 8
    · have hc := hB.cell (bv_at _ k _ (Sx.gens_get _ _ 8 k k hlt))
      rw [if_neg (Nat.lt_irrefl k)] at hc
      have hf := hB.free k
      have d1 : IntKind.i64.wrap (8 * (k : Int)) = 8 * (k : Int) := IntWalk.i64_in _ (by omega)
      have d2 : IntKind.i64.wrap (56 - 8 * (k : Int)) = 56 - 8 * (k : Int) := IntWalk.i64_in _ (by omega)
      have d3 : (56 - 8 * (k : Int)).toNat = 56 - 8 * k := by omega
      have d4 := U64_shr n (56 - 8 * k) (by omega)
      go_wp2
      go_roundw
      case rel =>
        refine ⟨k + 1, by omega, by go_num, ?_, hW.setCell (Nat.le_refl _) _⟩
        rw [← Sx.gens_set, ← bv_set]
        exact hB.set k _
      case measure => simp [intOf]; omega
    · obtain rfl : k = 8 := by omega
      rw [Sx.gens_all] at hB
      have hcv := bytes_back (P := Try.prog) 32 9 5 Try.underlying32 Try.underlying5 Try.underlying9 hB 8 8 (by simp)
      have hsl := slice_all (P := Try.prog) 207 5 8 w.heap.size Try.underlying207 hz8
      go_wp2
      go_ret
      exact ⟨rfl, hW⟩

theorem of_any (s : ByteArray) (hs : 16 ≤ s.size) (w : World) : Calls Try.prog 112 #[.string s] w fun e w' => e = .returned (.agg (pv (Sx.polyOf s.data.toList))) ∧ Below w.heap.size w w' := by
  have hex : (s.extract 8 s.size).data.toList = s.data.toList.drop 8 := by
    simp [ByteArray.data_extract]
    apply List.take_of_length_le
    have : s.data.size = s.size := rfl
    simp [this]
  have hsz : 8 ≤ (s.extract 8 s.size).size := by simp; omega
  have hsl : ∀ W, (Instr.slice 9 (.string s) (some (.int .i64 8)) none none).run Try.prog W = .ok (.string (s.extract 8 s.size)) W := fun W => by
    rw [run_slice_string_l (ht := Try.underlying9) (h0 := by omega) (h1 := by omega)]
    rfl
  unfold Sx.polyOf
  rw [← hex]
  generalize s.extract 8 s.size = t at hsz hsl
  go_enter Try.func112, Try.ntmps112
  go_wp2_with fail
  have hB : Hold (w.alloc (Obj.cells #[Value.int IntKind.u64 0, Value.int IntKind.u64 0] 161)) w.heap.size 2 161 := Hold.of (Blk.new w _ _) rfl
  have hW : Below w.heap.size w (w.alloc (Obj.cells #[Value.int IntKind.u64 0, Value.int IntKind.u64 0] 161)) := (Below.refl _ _).alloc (Nat.le_refl _) _
  generalize (w.alloc (Obj.cells #[Value.int IntKind.u64 0, Value.int IntKind.u64 0] 161)) = W0 at hB hW ⊢
  go_region_held3 (fun W => Below w.heap.size w W ∧ Hold W w.heap.size 2 161 ∧ W.cell? ⟨w.heap.size, 0, none⟩ = some (cellAt W ⟨w.heap.size, 0, none⟩) ∧ W.cell? ⟨w.heap.size, 1, none⟩ = some (cellAt W ⟨w.heap.size, 1, none⟩) ∧ W.frozen? ⟨w.heap.size, 0, none⟩ = false ∧ W.frozen? ⟨w.heap.size, 1, none⟩ = false)
    (first
      | assumption
      | exact held2 hW.drew hB.drew
      | exact held2_callee (by assumption) hk
      | exact held2_set (by assumption) _ _)
    ((go_at_call 146; refine (word_any _ (by first | exact hsz | omega) _).mono ?_; rintro e w1 ⟨rfl, hk⟩))
  rename_i hH
  have hF := hH.2.1.two
  have hW2 := hH.1
  clear hH
  generalize (w1.setCell _ _).setCell _ _ = w2 at hF hW2 ⊢
  go_wp2_with fail
  exact bodyPost_ret (results_cell_row rfl _ _ w.heap.size 161 _ (0, 0) _ rfl hF Try.underlying161 rfl (by kernel_rfl)) rfl ⟨rfl, hW2⟩

theorem nums_size (n : UInt64) : (⟨(Sx.nums n).toArray⟩ : ByteArray).size = 8 := Sx.nums_length n
theorem block_any (p : Sx.Poly) (w : World) : Calls Try.prog 115 #[.agg (pv p)] w fun e w' => e = .returned (.string ⟨(Sx.polyBlock p).toArray⟩) ∧ Below w.heap.size w w' := by
  have hn1 := nums_size p.1
  have hn2 := nums_size p.2
  go_enter Try.func115, Try.ntmps115
  go_wp2_with fail
  have hB : Blk (w.alloc (Obj.cells (pv p) 161)) w.heap.size (pv p) 161 := Blk.new w _ _
  have hW : Below w.heap.size w (w.alloc (Obj.cells (pv p) 161)) := (Below.refl _ _).alloc (Nat.le_refl _) _
  generalize (w.alloc (Obj.cells (pv p) 161)) = W0 at hB hW ⊢
  go_region_held3 (fun W => Below w.heap.size w W ∧ Blk W w.heap.size (pv p) 161 ∧ W.cell? ⟨w.heap.size, 0, none⟩ = some (.int .u64 (U64 p.1)) ∧ W.cell? ⟨w.heap.size, 1, none⟩ = some (.int .u64 (U64 p.2)))
    (first
      | assumption
      | exact heldP hW.drew hB.drew
      | exact heldP_callee (by assumption) hk)
    ((go_at_call 149; refine (bytes_any _ _).mono ?_; rintro e w1 ⟨rfl, hk⟩))
  rename_i hH
  have hW2 := hH.1
  clear hH
  go_wp2_with fail
  go_ret
  exact ⟨by rw [str_add]; rfl, hW2⟩

theorem bit_any (p : Sx.Poly) (i : Nat) (hi : i < 128) (w : World) : Calls Try.prog 151 #[.agg (pv p), .int .i64 i] w fun e w' => e = .returned (.bool (Sx.bit p i)) ∧ Below w.heap.size w w' := by
  have m1 : bits .and .i64 (i : Int) 63 = (i : Int) % 64 := i64_and63 _ (by omega) (by omega)
  have d2 : IntKind.i64.wrap (63 - (i : Int) % 64) = 63 - (i : Int) % 64 := IntWalk.i64_in _ (by omega)
  have d3 : (63 - (i : Int) % 64).toNat = 63 - i % 64 := by omega
  have d4 := U64_shr (if i < 64 then p.1 else p.2) (63 - i % 64) (by omega)
  have d5 : (i : Int) / 64 = if i < 64 then 0 else 1 := by split <;> omega
  unfold Sx.bit
  by_cases h : i < 64
  · rw [if_pos h] at d4 d5
    rw [if_pos h]
    have hc : (w.alloc (Obj.cells (pv p) 161)).cell? ⟨w.heap.size, 0, none⟩ = some (.int .u64 (U64 p.1)) := (Blk.new w (pv p) _).cell (k := 0) rfl
    clear h
    go_enter Try.func151, Try.ntmps151
    go_wp2
    go_ret
    exact ⟨rfl, (Below.refl _ _).alloc (Nat.le_refl _) _⟩
  · rw [if_neg h] at d4 d5
    rw [if_neg h]
    have hc : (w.alloc (Obj.cells (pv p) 161)).cell? ⟨w.heap.size, 1, none⟩ = some (.int .u64 (U64 p.2)) := (Blk.new w (pv p) _).cell (k := 1) rfl
    clear h
    go_enter Try.func151, Try.ntmps151
    go_wp2
    go_ret
    exact ⟨rfl, (Below.refl _ _).alloc (Nat.le_refl _) _⟩

theorem raised_any (p : Sx.Poly) (w : World) : Calls Try.prog 150 #[.agg (pv p)] w fun e w' => e = .returned (.agg (pv (Sx.raised p))) ∧ Below w.heap.size w w' := by
  have hW : ∀ (c1 c2 c3 : Obj), Below w.heap.size w (((w.alloc c1).alloc c2).alloc c3) := fun c1 c2 c3 => (((Below.refl _ _).alloc (Nat.le_refl _) _).alloc (by simp) _).alloc (by simp; omega) _
  by_cases h : (p.2 &&& 1 == 1) = true
  · have e : Sx.raised p = (p.1 >>> 1 ^^^ 16212958658533785600, p.1 <<< 63 ||| p.2 >>> 1) := by unfold Sx.raised Sx.shifted; rw [if_pos h]
    rw [e]
    unfold pv
    clear e
    go_enter Try.func150, Try.ntmps150
    go_wp2
    exact bodyPost_ret (results_cell_row rfl _ _ (w.heap.size + 1) 161 _ (0, 0) _ rfl ((Blk.new' _ _ _ (by simp)).alloc _) Try.underlying161 rfl (by kernel_rfl)) rfl ⟨rfl, hW _ _ _⟩
  · have h : (p.2 &&& 1 == 1) = false := by simpa using h
    have e : Sx.raised p = (p.1 >>> 1, p.1 <<< 63 ||| p.2 >>> 1) := by unfold Sx.raised Sx.shifted; rw [if_neg (by simp [h])]
    rw [e]
    unfold pv
    clear e
    go_enter Try.func150, Try.ntmps150
    go_wp2
    exact bodyPost_ret (results_cell_row rfl _ _ (w.heap.size + 1) 161 _ (0, 0) _ rfl ((Blk.new' _ _ _ (by simp)).alloc _) Try.underlying161 rfl (by kernel_rfl)) rfl ⟨rfl, hW _ _ _⟩

theorem times_any (p q : Sx.Poly) (w : World) : Calls Try.prog 114 #[.agg (pv p), .agg (pv q)] w fun e w' => e = .returned (.agg (pv (Sx.times p q))) ∧ Below w.heap.size w w' := by
  have hsz : ∀ r : Sx.Poly, (Try.prog.info? 161).map (·.size) = some (pv r).size := fun r => by show _ = some 2; kernel_rfl
  have hpv : ∀ r : Sx.Poly, (pv r).all (·.oneCell') = true := fun r => by simp [pv, Value.oneCell']
  have hpv0 : pv (0, 0) = #[Value.int IntKind.u64 0, Value.int IntKind.u64 0] := rfl
  go_enter Try.func114, Try.ntmps114
  go_wp2_with fail
  have hS : ∃ W0 : World, (((w.alloc (Obj.cells (pv p) 161)).alloc (Obj.cells (pv q) 161)).alloc (Obj.cells #[Value.int IntKind.u64 0, Value.int IntKind.u64 0] 161)).alloc (Obj.cells #[Value.int IntKind.u64 0, Value.int IntKind.u64 0] 161) = W0 ∧
      Blk W0 w.heap.size (pv p) 161 ∧ Blk W0 (w.heap.size + 1) (pv q) 161 ∧ Blk W0 (w.heap.size + 1 + 1) (pv (0, 0)) 161 ∧ Blk W0 (w.heap.size + 1 + 1 + 1) (pv (0, 0)) 161 ∧ Below w.heap.size w W0 :=
    ⟨_, rfl, (((Blk.new _ _ _).alloc _).alloc _).alloc _, ((Blk.new' _ _ _ (by simp)).alloc _).alloc _, (Blk.new' _ _ _ (by simp)).alloc _, Blk.new' _ _ _ (by simp),
      ((((Below.refl _ _).alloc (Nat.le_refl _) _).alloc (by simp) _).alloc (by simp; omega) _).alloc (by simp; omega) _⟩
  obtain ⟨W0, hW0, h1, h2, h3, h4, hW⟩ := hS
  rw [hW0]
  clear hW0
  go_loopw [6] (fun iv wr => ∃ k : Nat, k ≤ 128 ∧ iv = .int .i64 (127 - (k : Int)) ∧ Blk wr w.heap.size (pv p) 161 ∧ Blk wr (w.heap.size + 1) (pv q) 161 ∧ Blk wr (w.heap.size + 1 + 1) (pv (0, 0)) 161 ∧ Blk wr (w.heap.size + 1 + 1 + 1) (pv (Sx.timesAt p q k)) 161 ∧ Below w.heap.size w wr)
    (fun iv _ => (intOf iv + 1).toNat)
  case atStart => exact ⟨0, by omega, rfl, h1, h2, h3, h4, hW⟩
  case round =>
    clear h1 h2 h3 h4 hW
    obtain ⟨k, hk, rfl, h1, h2, h3, h4, hW⟩ := hrel
    by_cases hlt : k < 128
    · obtain ⟨n, hn⟩ : ∃ n : Nat, n + k = 127 := ⟨127 - k, by omega⟩
      rw [show (127 - (k : Int)) = (n : Int) by omega]
      have hsx : Sx.timesAt p q (k + 1) = if Sx.bit q n then Sx.pxor (Sx.raised (Sx.timesAt p q k)) p else Sx.raised (Sx.timesAt p q k) := by
        rw [Sx.timesAt, show 127 - k = n by omega]
      have HSX := Lib.hid hsx
      clear hsx
      generalize Sx.timesAt p q k = tk at h4 HSX
      generalize hR : Sx.raised tk = R at HSX
      have HN := Lib.hid hn
      have d1 : IntKind.i64.wrap ((n : Int) - 1) = (n : Int) - 1 := IntWalk.i64_in _ (by omega)
      have d2 : (n : Int) ≥ 0 := by omega
      have hn128 : n < 128 := by omega
      generalize hbit : Sx.bit q n = bt at HSX
      cases bt
      all_goals
        go_wp2_with (first
          | (refine wpList_load_row rfl 161 _ rfl (w.heap.size + 1 + 1 + 1) rfl 161 _ (0, 0) _ h4 Try.underlying161 rfl (hsz _) ?_)
          | (go_at_call 150; refine (raised_any tk _).mono ?_; rintro e w1 ⟨rfl, hk1⟩)
          | (refine wpList_store_row rfl 161 _ _ rfl (w.heap.size + 1 + 1 + 1) _ rfl rfl 161 _ (h4.callee hk1) (hsz _) rfl (hpv _) ?_)
          | (refine wpList_load_row rfl 161 _ rfl (w.heap.size + 1) rfl 161 _ (0, 0) _ ((h2.callee hk1).otherRow (by omega) _) Try.underlying161 rfl (hsz _) ?_)
          | (go_at_call 151; refine (bit_any q n hn128 _).mono ?_; rintro e w2 ⟨rfl, hk2⟩; rw [hbit]
             have g1 := ((h1.callee hk1).otherRow (b' := w.heap.size + 1 + 1 + 1) (by omega) (pv R)).callee hk2
             have g2 := ((h2.callee hk1).otherRow (b' := w.heap.size + 1 + 1 + 1) (by omega) (pv R)).callee hk2
             have g3 := ((h3.callee hk1).otherRow (b' := w.heap.size + 1 + 1 + 1) (by omega) (pv R)).callee hk2
             have g4 := ((h4.callee hk1).row (pv R)).callee hk2
             have gW := Below.callee (below_setRow (Below.callee hW hk1) (b := w.heap.size + 1 + 1 + 1) (by omega) (pv R)) hk2
             have c1 : w2.cell? ⟨w.heap.size, 0, none⟩ = some (.int .u64 (U64 p.1)) := g1.cell (k := 0) rfl
             have c2 : w2.cell? ⟨w.heap.size, 1, none⟩ = some (.int .u64 (U64 p.2)) := g1.cell (k := 1) rfl
             have c3 : w2.cell? ⟨w.heap.size + 1 + 1 + 1, 0, none⟩ = some (.int .u64 (U64 R.1)) := g4.cell (k := 0) rfl
             have c4 : w2.cell? ⟨w.heap.size + 1 + 1 + 1, 1, none⟩ = some (.int .u64 (U64 R.2)) := g4.cell (k := 1) rfl
             have f3 := g4.free 0
             have f4 := g4.free 1
             clear hk1 hk2 h1 h2 h3 h4 hW))
        go_roundw
      case rel =>
        refine ⟨k + 1, by omega, ?_, g1, g2, g3, ?_, gW⟩
        · have := HN.out
          congr 1; omega
        · rw [HSX.out]; exact g4
      case measure => simp [intOf] <;> omega
      case rel =>
        refine ⟨k + 1, by omega, ?_, (g1.other (by simp <;> omega) _).other (by simp <;> omega) _, (g2.other (by simp <;> omega) _).other (by simp <;> omega) _, (g3.other (by simp <;> omega) _).other (by simp <;> omega) _, ?_, (gW.setCell (by simp <;> omega) _).setCell (by simp <;> omega) _⟩
        · have := HN.out
          congr 1; omega
        · rw [HSX.out]; exact (g4.set 0 _).set 1 _
      case measure => simp [intOf] <;> omega
    · obtain rfl : k = 128 := by omega
      go_wp2_with (first
        | (refine wpList_load_row rfl 161 _ rfl (w.heap.size + 1 + 1 + 1) rfl 161 _ (0, 0) _ h4 Try.underlying161 rfl (hsz _) ?_)
        | (refine wpList_store_row rfl 161 _ _ rfl (w.heap.size + 1 + 1) _ rfl rfl 161 _ h3 (hsz _) rfl (hpv _) ?_))
      exact bodyPost_ret (results_cell_row rfl _ _ (w.heap.size + 1 + 1) 161 _ (0, 0) _ rfl (h3.row _) Try.underlying161 rfl (hsz _)) rfl ⟨rfl, below_setRow hW (by omega) _⟩
end
end Go.Proofs.Ytieooonobjkglaa
