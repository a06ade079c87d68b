/- The contract of AES's rounds. -/
import Derived.Test.YtieooonobjkglaaAesM
namespace Go.Proofs.Ytieooonobjkglaa
open Go Go.Proofs Go.RowKit SW
attribute [local go_sem] U8_xor U8_fold
set_option maxRecDepth 20000
set_option maxHeartbeats 2000000

theorem rounds_any (s : List UInt8) (hs : s.length = 16) (n : Nat) (kb : Nat → ByteArray) (bk g cap : Nat) (hn : 2 ≤ n) (hn2 : n ≤ 100) (hk : ∀ j, j < n → (kb j).size = 16) (w : World)
    (hbk : w.cell? ⟨bk, 0, none⟩ = some (.slice (some ⟨g, 0, none⟩) n cap)) (hcap : n ≤ cap) (hst : ∀ j, j < n → w.cell? ⟨g, j, none⟩ = some (.string (kb j))) :
    Calls Try.prog 50 #[.agg (bv s), .pointer (some ⟨bk, 0, none⟩)] w fun e w' => e = .returned (.agg (bv (Sx.crypt n (fun j => (kb j).data.toList) s))) ∧ Below w.heap.size w w' := by
  have hmx : Try.prog.toTables.follows .mixedOrders = true := by kernel_rfl
  have hb0 := World.block_lt_of_cell? w _ hbk
  have hg0 := hst 0 (by omega)
  have hgl := World.block_lt_of_cell? w _ hg0
  have hpos : 0 < n := by omega
  have hcap1 : ¬ cap = 1 := by omega
  have hcap2 : (1 : Int) ≤ n := by omega
  go_enter Try.func50, Try.ntmps50
  go_wp2
  have ez : (#[Value.int IntKind.u8 0, Value.int IntKind.u8 0, Value.int IntKind.u8 0, Value.int IntKind.u8 0, Value.int IntKind.u8 0, Value.int IntKind.u8 0, Value.int IntKind.u8 0, Value.int IntKind.u8 0, Value.int IntKind.u8 0, Value.int IntKind.u8 0, Value.int IntKind.u8 0, Value.int IntKind.u8 0, Value.int IntKind.u8 0, Value.int IntKind.u8 0, Value.int IntKind.u8 0, Value.int IntKind.u8 0] : Array Value) = bv (zeros 16) := rfl
  rw [ez]
  have hB : Blk ((w.alloc (Obj.cells (bv s) 93)).alloc (Obj.cells (bv (zeros 16)) 93)) w.heap.size (bv s) 93 := (Blk.new _ _ _).alloc _
  have hR : Blk ((w.alloc (Obj.cells (bv s) 93)).alloc (Obj.cells (bv (zeros 16)) 93)) (w.heap.size + 1) (bv (zeros 16)) 93 := by
    have := Blk.new (w.alloc (Obj.cells (bv s) 93)) (bv (zeros 16)) 93
    rw [World.size_alloc] at this
    exact this
  have hW : Below w.heap.size w ((w.alloc (Obj.cells (bv s) 93)).alloc (Obj.cells (bv (zeros 16)) 93)) := ((Below.refl _ _).alloc (Nat.le_refl _) _).alloc (by simp) _
  generalize (w.alloc (Obj.cells (bv s) 93)).alloc (Obj.cells (bv (zeros 16)) 93) = W0 at hB hR hW ⊢
  have c1 := (hW.cell (p := ⟨bk, 0, none⟩) hb0).trans hbk
  have c2 := (hW.cell (p := ⟨g, 0, none⟩) hgl).trans hg0
  go_wp2_with (first
    | (refine wp_tail 4 hmx (by kernel_rfl) ?_; simp only [List.take_succ_cons, List.take_zero, List.drop_succ_cons, List.drop_zero]; refine still_load_blk rfl 93 _ rfl w.heap.size rfl 93 _ _ hB.drew Try.underlying93 rfl (size93 s hs) ?_; (repeat still_step); refine wpStill_nil ?_)
    | (go_at_call 51; refine (with_any s hs _ (hk 0 hpos) _).mono ?_; rintro e w1 ⟨rfl, hb1⟩; have hB1 := (hB.drew).below hb1 hB.lt; have hR1 := (hR.drew).below hb1 hR.lt; have hW1 := hW.drew.trans (hb1.mono hW.size))
    | (refine wpList_store_row rfl 93 _ _ rfl w.heap.size _ rfl rfl 93 _ hB1 (size93 _ (Sx.withKey_length _ _)) (by simp [bv_size, hs, Sx.withKey_length]) (bv_one _) ?_; have hB2 := hB1.row (bv (Sx.withKey s (kb 0).data.toList)); have hR2 := hR1.otherRow (b' := w.heap.size) (by omega) (bv (Sx.withKey s (kb 0).data.toList)); have hW2 := below_setRow hW1 (Nat.le_refl _) (bv (Sx.withKey s (kb 0).data.toList)); generalize w1.setRow w.heap.size (bv (Sx.withKey s (kb 0).data.toList)) = W2 at hB2 hR2 hW2 ⊢; clear hB1 hR1 hW1 hb1 hB hR hW c1 c2; have c1 := (hW2.cell (p := ⟨bk, 0, none⟩) hb0).trans hbk))
  clear hg0 hgl
  go_loopw [4, 5, 14] (fun _ _ t wr => ∃ i : Nat, i ≤ n - 1 ∧ t = .int .i64 i ∧ Blk wr w.heap.size (bv (Sx.rounds n (fun j => (kb j).data.toList) (Sx.withKey s (kb 0).data.toList) i)) 93 ∧ Blk wr (w.heap.size + 1) (bv (zeros 16)) 93 ∧ Below w.heap.size w wr)
    (fun _ _ t _ => n - 1 - (intOf t).toNat)
  case atStart => exact ⟨0, by omega, rfl, hB2, hR2, hW2⟩
  case round =>
    clear hB2 hR2 hW2 c1
    obtain ⟨i, hi, rfl, hB, hR, hW⟩ := hrel
    have HL : (Sx.rounds n (fun j => (kb j).data.toList) (Sx.withKey s (kb 0).data.toList) i).length = 16 := Sx.rounds_length _ _ _ (Sx.withKey_length _ _) _
    by_cases hlt : i < n - 1
    · have hr : Sx.rounds n (fun j => (kb j).data.toList) (Sx.withKey s (kb 0).data.toList) (i + 1) = Sx.rnd n (Sx.rounds n (fun j => (kb j).data.toList) (Sx.withKey s (kb 0).data.toList) i) i (kb (i + 1)).data.toList := rfl
      generalize Sx.rounds n (fun j => (kb j).data.toList) (Sx.withKey s (kb 0).data.toList) i = l at hB HL hr
      have HR := Lib.hid hr
      clear hr
      have c3 := hst (1 + i) (by omega)
      have hg := World.block_lt_of_cell? w _ c3
      have hkk := hk (1 + i) (by omega)
      replace c3 := (hW.cell (p := ⟨g, 1 + i, none⟩) hg).trans c3
      have c1 := (hW.cell (p := ⟨bk, 0, none⟩) hb0).trans hbk
      by_cases hm : i + 2 < n
      · have t1 : (i : Int) < (n : Int) - 2 := by omega
        replace hm := Lib.hid hm
        go_wp2_with (first
          | (refine wpList_load_row rfl 93 _ rfl w.heap.size rfl 93 _ (0, 0) _ hB Try.underlying93 rfl (size93 _ HL) ?_)
          | (go_at_call 52; refine (boxed_any _ HL _).mono ?_; rintro e w1 ⟨rfl, hb⟩; replace hB := hB.below hb hB.lt; replace hR := hR.below hb hR.lt; replace hW := hW.trans (hb.mono hW.size); clear hb; replace c1 := (hW.cell (p := ⟨bk, 0, none⟩) hb0).trans hbk)
          | (go_at_call 53; refine (turned_any _ (by rw [List.length_map, HL]) _).mono ?_; rintro e w2 ⟨rfl, hb⟩; replace hB := hB.below hb hB.lt; replace hR := hR.below hb hR.lt; replace hW := hW.trans (hb.mono hW.size); clear hb; replace c1 := (hW.cell (p := ⟨bk, 0, none⟩) hb0).trans hbk)
          | (refine wpList_store_row rfl 93 _ _ rfl w.heap.size (bv (Sx.turned (l.map Sx.box))) rfl rfl 93 _ hB (size93 _ (Sx.turned_length (l.map Sx.box))) (by rw [bv_size, bv_size, HL, Sx.turned_length (l.map Sx.box)]) (bv_one _) ?_; replace hB := hB.row (bv (Sx.turned (l.map Sx.box))); replace hR := hR.otherRow (b' := w.heap.size) (by omega) (bv (Sx.turned (l.map Sx.box))); replace hW := below_setRow hW (Nat.le_refl _) (bv (Sx.turned (l.map Sx.box))); replace HL := Sx.turned_length (l.map Sx.box); replace c1 := (hW.cell (p := ⟨bk, 0, none⟩) hb0).trans hbk; generalize World.setRow _ w.heap.size (bv (Sx.turned (l.map Sx.box))) = W3 at hB hR hW c1 ⊢)
          | (go_at_call 54; refine (mixed_any _ HL _).mono ?_; rintro e w4 ⟨rfl, hb⟩; replace hB := hB.below hb hB.lt; replace hR := hR.below hb hR.lt; replace hW := hW.trans (hb.mono hW.size); clear hb; replace c1 := (hW.cell (p := ⟨bk, 0, none⟩) hb0).trans hbk)
          | (refine wpList_store_row rfl 93 _ _ rfl w.heap.size (bv (Sx.mixed (Sx.turned (l.map Sx.box)))) rfl rfl 93 _ hB (size93 _ (Sx.mixed_length (Sx.turned (l.map Sx.box)))) (by rw [bv_size, bv_size, HL, Sx.mixed_length (Sx.turned (l.map Sx.box))]) (bv_one _) ?_; replace hB := hB.row (bv (Sx.mixed (Sx.turned (l.map Sx.box)))); replace hR := hR.otherRow (b' := w.heap.size) (by omega) (bv (Sx.mixed (Sx.turned (l.map Sx.box)))); replace hW := below_setRow hW (Nat.le_refl _) (bv (Sx.mixed (Sx.turned (l.map Sx.box)))); replace HL := Sx.mixed_length (Sx.turned (l.map Sx.box)); replace c1 := (hW.cell (p := ⟨bk, 0, none⟩) hb0).trans hbk; generalize World.setRow _ w.heap.size (bv (Sx.mixed (Sx.turned (l.map Sx.box)))) = W3 at hB hR hW c1 ⊢)
          | (go_at_call 51; refine (with_any _ HL _ hkk _).mono ?_; rintro e w6 ⟨rfl, hb⟩; replace hB := hB.below hb hB.lt; replace hR := hR.below hb hR.lt; replace hW := hW.trans (hb.mono hW.size); clear hb; replace c1 := (hW.cell (p := ⟨bk, 0, none⟩) hb0).trans hbk)
          | (refine wpList_store_row rfl 93 _ _ rfl w.heap.size (bv (Sx.withKey (Sx.mixed (Sx.turned (l.map Sx.box))) (kb (1 + i)).data.toList)) rfl rfl 93 _ hB (size93 _ (Sx.withKey_length (Sx.mixed (Sx.turned (l.map Sx.box))) (kb (1 + i)).data.toList)) (by rw [bv_size, bv_size, HL, Sx.withKey_length (Sx.mixed (Sx.turned (l.map Sx.box))) (kb (1 + i)).data.toList]) (bv_one _) ?_; replace hB := hB.row (bv (Sx.withKey (Sx.mixed (Sx.turned (l.map Sx.box))) (kb (1 + i)).data.toList)); replace hR := hR.otherRow (b' := w.heap.size) (by omega) (bv (Sx.withKey (Sx.mixed (Sx.turned (l.map Sx.box))) (kb (1 + i)).data.toList)); replace hW := below_setRow hW (Nat.le_refl _) (bv (Sx.withKey (Sx.mixed (Sx.turned (l.map Sx.box))) (kb (1 + i)).data.toList)); replace HL := Sx.withKey_length (Sx.mixed (Sx.turned (l.map Sx.box))) (kb (1 + i)).data.toList; replace c1 := (hW.cell (p := ⟨bk, 0, none⟩) hb0).trans hbk; generalize World.setRow _ w.heap.size (bv (Sx.withKey (Sx.mixed (Sx.turned (l.map Sx.box))) (kb (1 + i)).data.toList)) = W3 at hB hR hW c1 ⊢))
        go_roundw
        case rel =>
          refine ⟨i + 1, by omega, by go_num, ?_, hR, hW⟩
          rw [HR.out, Sx.rnd, if_pos hm.out, Nat.add_comm i 1]
          exact hB
        case measure => simp [intOf]; omega
      · have t1 : ¬ ((i : Int) < (n : Int) - 2) := by omega
        replace hm := Lib.hid hm
        go_wp2_with (first
          | (refine wpList_load_row rfl 93 _ rfl w.heap.size rfl 93 _ (0, 0) _ hB Try.underlying93 rfl (size93 _ HL) ?_)
          | (go_at_call 52; refine (boxed_any _ HL _).mono ?_; rintro e w1 ⟨rfl, hb⟩; replace hB := hB.below hb hB.lt; replace hR := hR.below hb hR.lt; replace hW := hW.trans (hb.mono hW.size); clear hb; replace c1 := (hW.cell (p := ⟨bk, 0, none⟩) hb0).trans hbk)
          | (go_at_call 53; refine (turned_any _ (by rw [List.length_map, HL]) _).mono ?_; rintro e w2 ⟨rfl, hb⟩; replace hB := hB.below hb hB.lt; replace hR := hR.below hb hR.lt; replace hW := hW.trans (hb.mono hW.size); clear hb; replace c1 := (hW.cell (p := ⟨bk, 0, none⟩) hb0).trans hbk)
          | (refine wpList_store_row rfl 93 _ _ rfl w.heap.size (bv (Sx.turned (l.map Sx.box))) rfl rfl 93 _ hB (size93 _ (Sx.turned_length (l.map Sx.box))) (by rw [bv_size, bv_size, HL, Sx.turned_length (l.map Sx.box)]) (bv_one _) ?_; replace hB := hB.row (bv (Sx.turned (l.map Sx.box))); replace hR := hR.otherRow (b' := w.heap.size) (by omega) (bv (Sx.turned (l.map Sx.box))); replace hW := below_setRow hW (Nat.le_refl _) (bv (Sx.turned (l.map Sx.box))); replace HL := Sx.turned_length (l.map Sx.box); replace c1 := (hW.cell (p := ⟨bk, 0, none⟩) hb0).trans hbk; generalize World.setRow _ w.heap.size (bv (Sx.turned (l.map Sx.box))) = W3 at hB hR hW c1 ⊢)
          | (go_at_call 51; refine (with_any _ HL _ hkk _).mono ?_; rintro e w6 ⟨rfl, hb⟩; replace hB := hB.below hb hB.lt; replace hR := hR.below hb hR.lt; replace hW := hW.trans (hb.mono hW.size); clear hb; replace c1 := (hW.cell (p := ⟨bk, 0, none⟩) hb0).trans hbk)
          | (refine wpList_store_row rfl 93 _ _ rfl w.heap.size (bv (Sx.withKey (Sx.turned (l.map Sx.box)) (kb (1 + i)).data.toList)) rfl rfl 93 _ hB (size93 _ (Sx.withKey_length (Sx.turned (l.map Sx.box)) (kb (1 + i)).data.toList)) (by rw [bv_size, bv_size, HL, Sx.withKey_length (Sx.turned (l.map Sx.box)) (kb (1 + i)).data.toList]) (bv_one _) ?_; replace hB := hB.row (bv (Sx.withKey (Sx.turned (l.map Sx.box)) (kb (1 + i)).data.toList)); replace hR := hR.otherRow (b' := w.heap.size) (by omega) (bv (Sx.withKey (Sx.turned (l.map Sx.box)) (kb (1 + i)).data.toList)); replace hW := below_setRow hW (Nat.le_refl _) (bv (Sx.withKey (Sx.turned (l.map Sx.box)) (kb (1 + i)).data.toList)); replace HL := Sx.withKey_length (Sx.turned (l.map Sx.box)) (kb (1 + i)).data.toList; replace c1 := (hW.cell (p := ⟨bk, 0, none⟩) hb0).trans hbk; generalize World.setRow _ w.heap.size (bv (Sx.withKey (Sx.turned (l.map Sx.box)) (kb (1 + i)).data.toList)) = W3 at hB hR hW c1 ⊢))
        go_roundw
        case rel =>
          refine ⟨i + 1, by omega, by go_num, ?_, hR, hW⟩
          rw [HR.out, Sx.rnd, if_neg hm.out, Nat.add_comm i 1]
          exact hB
        case measure => simp [intOf]; omega
    · obtain rfl : i = n - 1 := by omega
      have hs9 := size93 _ HL
      go_wp2_with (first
        | (refine wpList_load_row rfl 93 _ rfl w.heap.size rfl 93 _ (0, 0) _ hB Try.underlying93 rfl (size93 _ HL) ?_)
        | (refine wpList_store_row rfl 93 _ _ rfl (w.heap.size + 1) _ rfl rfl 93 _ hR hs9 (by rw [bv_size, bv_size, HL]; rfl) (bv_one _) ?_))
      exact bodyPost_ret (results_cell_row rfl _ _ (w.heap.size + 1) 93 _ (0, 0) _ rfl (hR.row _) Try.underlying93 rfl hs9) rfl ⟨rfl, below_setRow hW (by omega) _⟩
end Go.Proofs.Ytieooonobjkglaa
