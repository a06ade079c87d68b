/- The contracts of gcm.Open. No condition on the world. -/
import Derived.Test.YtieooonobjkglaaGcmD
namespace Go.Proofs.Ytieooonobjkglaa
open Go Go.Proofs Go.RowKit Go.Shelf SW
set_option maxRecDepth 20000
set_option maxHeartbeats 4000000
theorem keepP {w W1 W2 : World} {a b : Addr} {v u : Value} (h : Below w.heap.size w W1 ∧ W1.cell? a = some v ∧ W1.cell? b = some u) (hk : Below W1.heap.size W1 W2) : Below w.heap.size w W2 ∧ W2.cell? a = some v ∧ W2.cell? b = some u :=
  ⟨Below.callee h.1 hk, (hk.cell (World.block_lt_of_cell? _ _ h.2.1)).trans h.2.1, (hk.cell (World.block_lt_of_cell? _ _ h.2.2)).trans h.2.2⟩
theorem open_ok (kk : Nat) (hk : kk = 4 ∨ kk = 8) (key nonce head sealed : ByteArray) (n : Nat) (hkey : key.size = 4 * kk) (hn : nonce.size = 12) (hh : head.size ≤ 4096) (hs : sealed.size = n + 16) (hn4 : n ≤ 4096)
    (w : World) (ht : Sx.tag kk key.data.toList nonce.data.toList head.data.toList (sealed.data.toList.take n) = sealed.data.toList.drop n) :
    Calls Try.prog 11 #[.string key, .string nonce, .string head, .string sealed] w fun e w' =>
      e = .returned (.tuple #[.string ⟨(Sx.xorL (sealed.data.toList.take n) (Sx.stream kk key.data.toList nonce.data.toList 2 n)).toArray⟩, .int .i64 0]) ∧ Below w.heap.size w w' := by
  have C0 : Hid (∀ w, Calls Try.prog 35 #[.agg #[.string key, .string nonce]] w fun e w' => e = .returned (.bool true) ∧ Below w.heap.size w w') := by exact right_yes key nonce kk hk hkey hn
  have C1 : Hid (∀ w, Calls Try.prog 37 #[.agg #[.string key, .string nonce], .int .u32 2, .int .i64 (n : Int)] w fun e w' => e = .returned (.func (.func 87) #[.string ⟨(Sx.stream kk key.data.toList nonce.data.toList 2 n).toArray⟩] #[]) ∧ Below w.heap.size w w') := by
    exact fun w => mask_any kk hk key nonce hkey hn 2 n (by omega) w
  have hml := Sx.stream_length kk key.data.toList nonce.data.toList 2 n
  generalize Sx.stream kk key.data.toList nonce.data.toList 2 n = sk at C1 hml ⊢
  have hbl : (sealed.extract 0 n).data.toList = sealed.data.toList.take n := ext_upto _ _
  have hel : (sealed.extract n sealed.size).data.toList = sealed.data.toList.drop n := ext_end _ _
  have hbs : (sealed.extract 0 n).size = n := by simp; omega
  have hsl1 : ∀ W, (Instr.slice 9 (.string sealed) none (some (.int .i64 (n : Int))) none).run Try.prog W = .ok (.string (sealed.extract 0 n)) W := fun W => by
    rw [run_slice_string_h (ht := Try.underlying9) (h0 := by omega) (h2 := by omega)]
    rfl
  have hsl2 : ∀ W, (Instr.slice 9 (.string sealed) (some (.int .i64 (n : Int))) none none).run Try.prog W = .ok (.string (sealed.extract n sealed.size)) W := fun W => by
    rw [run_slice_string_l (ht := Try.underlying9) (h0 := by omega) (h1 := by omega)]
    rfl
  rw [← hbl, ← hel] at ht
  have HR : Hid (Sx.xorL (sealed.data.toList.take n) sk = Sx.xorL (sealed.extract 0 n).data.toList sk) := by rw [hbl]; exact rfl
  generalize sealed.extract 0 n = body at hsl1 ht HR hbs
  generalize sealed.extract n sealed.size = tail at hsl2 ht
  have C2 : Hid (∀ w, Calls Try.prog 87 #[.string ⟨sk.toArray⟩, .string body] w fun e w' => e = .returned (.string ⟨(Sx.xorL body.data.toList sk).toArray⟩) ∧ Below w.heap.size w w') := by
    exact fun w => text_any ⟨sk.toArray⟩ body (by rw [ba_len sk]; omega) (by omega) w
  have C3 : Hid (∀ w, Calls Try.prog 36 #[.agg #[.string key, .string nonce], .string head, .string body] w fun e w' => e = .returned (.string tail) ∧ Below w.heap.size w w') := by
    refine show ∀ w, _ from fun w => ?_
    have := tag_any kk hk key nonce head body hkey hn (by omega) (by omega) w
    rwa [ht] at this
  have dw : IntKind.i64.wrap ((sealed.size : Int) - 16) = (n : Int) := by rw [IntWalk.i64_in _ (by omega)]; omega
  have dw2 : (sealed.size : Int) - 16 = (n : Int) := by omega
  have d1 : decide ((head.size : Int) > 4096) = false := by simp; omega
  have d2 : decide ((n : Int) < 0) = false := by simp
  have d3 : decide ((n : Int) > 4096) = false := by simp; omega
  clear hbl hel hbs hml hkey hn ht hs
  have hB := Blk.new w #[.string key, .string nonce] 68
  have hW : Below w.heap.size w (w.alloc (Obj.cells #[.string key, .string nonce] 68)) := (Below.refl _ _).alloc (Nat.le_refl _) _
  go_enter Try.func11, Try.ntmps11
  go_wp2_with (first
    | (refine wpList_load_row rfl 68 (.tmp 10) rfl w.heap.size rfl 68 #[.string key, .string nonce] (0, 0) _ hB Try.underlying68 rfl (by kernel_rfl) ?_)
    | (go_at_call 35; refine (C0.out _).mono ?_; rintro e w1 ⟨rfl, hk1⟩))
  have hB1 := hB.callee hk1
  have hW1 := Below.callee hW hk1
  have c1 : w1.cell? ⟨w.heap.size, 0, none⟩ = some (.string key) := hB1.cell (k := 0) rfl
  have c2 : w1.cell? ⟨w.heap.size, 1, none⟩ = some (.string nonce) := hB1.cell (k := 1) rfl
  have hA : Below w1.heap.size w1 w1.drew := (Below.refl _ _).drew
  clear hk1 hW hB
  go_region_held3 (fun W => Below w.heap.size w W ∧ W.cell? ⟨w.heap.size, 0, none⟩ = some (.string key) ∧ W.cell? ⟨w.heap.size, 1, none⟩ = some (.string nonce))
    (first | assumption | exact ⟨hW1.drew, c1, c2⟩ | exact keepP (by assumption) hk2)
    ((go_at_call 36; refine (C3.out _).mono ?_; rintro e w2 ⟨rfl, hk2⟩; replace hA := Below.callee hA hk2))
  have hS2 : Below w.heap.size w w2 ∧ w2.cell? ⟨w.heap.size, 0, none⟩ = some (.string key) ∧ w2.cell? ⟨w.heap.size, 1, none⟩ = some (.string nonce) := by assumption
  clear hk2 hA c1 c2 hW1 hB1
  obtain ⟨hW2, c1, c2⟩ := hS2
  have hA : Below w2.heap.size w2 w2.drew := (Below.refl _ _).drew
  go_wp2_with fail
  go_region_held3 (fun W => Below w.heap.size w W ∧ W.cell? ⟨w.heap.size, 0, none⟩ = some (.string key) ∧ W.cell? ⟨w.heap.size, 1, none⟩ = some (.string nonce))
    (first | assumption | exact ⟨hW2.drew, c1, c2⟩ | exact keepP (by assumption) hk2)
    (((first | (go_at_call 37; refine (C1.out _).mono ?_) | (go_at_call 87; refine (C2.out _).mono ?_)); rintro e w3 ⟨rfl, hk2⟩; replace hA := Below.callee hA hk2))
  go_wp2_with fail
  go_ret2
  rw [HR.out]
  exact ⟨rfl, Below.callee hW2 hA⟩
theorem open_auth (kk : Nat) (hk : kk = 4 ∨ kk = 8) (key nonce head sealed : ByteArray) (n : Nat) (hkey : key.size = 4 * kk) (hn : nonce.size = 12) (hh : head.size ≤ 4096) (hs : sealed.size = n + 16) (hn4 : n ≤ 4096)
    (w : World) (ht : Sx.tag kk key.data.toList nonce.data.toList head.data.toList (sealed.data.toList.take n) ≠ sealed.data.toList.drop n) :
    Calls Try.prog 11 #[.string key, .string nonce, .string head, .string sealed] w fun e w' =>
      e = .returned (.tuple #[.string ⟨#[]⟩, .int .i64 5]) ∧ Below w.heap.size w w' := by
  have C0 : Hid (∀ w, Calls Try.prog 35 #[.agg #[.string key, .string nonce]] w fun e w' => e = .returned (.bool true) ∧ Below w.heap.size w w') := by exact right_yes key nonce kk hk hkey hn
  have hbl : (sealed.extract 0 n).data.toList = sealed.data.toList.take n := ext_upto _ _
  have hel : (sealed.extract n sealed.size).data.toList = sealed.data.toList.drop n := ext_end _ _
  have hbs : (sealed.extract 0 n).size = n := by simp; omega
  have hsl1 : ∀ W, (Instr.slice 9 (.string sealed) none (some (.int .i64 (n : Int))) none).run Try.prog W = .ok (.string (sealed.extract 0 n)) W := fun W => by
    rw [run_slice_string_h (ht := Try.underlying9) (h0 := by omega) (h2 := by omega)]
    rfl
  have hsl2 : ∀ W, (Instr.slice 9 (.string sealed) (some (.int .i64 (n : Int))) none none).run Try.prog W = .ok (.string (sealed.extract n sealed.size)) W := fun W => by
    rw [run_slice_string_l (ht := Try.underlying9) (h0 := by omega) (h1 := by omega)]
    rfl
  rw [← hbl, ← hel] at ht
  generalize sealed.extract 0 n = body at hsl1 ht hbs
  generalize sealed.extract n sealed.size = tail at hsl2 ht
  have C3 : Hid (∀ w, Calls Try.prog 36 #[.agg #[.string key, .string nonce], .string head, .string body] w fun e w' => e = .returned (.string ⟨(Sx.tag kk key.data.toList nonce.data.toList head.data.toList body.data.toList).toArray⟩) ∧ Below w.heap.size w w') := by
    exact fun w => tag_any kk hk key nonce head body hkey hn (by omega) (by omega) w
  generalize Sx.tag kk key.data.toList nonce.data.toList head.data.toList body.data.toList = tg at C3 ht
  have hne : (tg == tail.toList) = false := by
    rw [beq_eq_false_iff_ne, ByteArray.toList_eq]; exact ht
  have dw : IntKind.i64.wrap ((sealed.size : Int) - 16) = (n : Int) := by rw [IntWalk.i64_in _ (by omega)]; omega
  have dw2 : (sealed.size : Int) - 16 = (n : Int) := by omega
  have d1 : decide ((head.size : Int) > 4096) = false := by simp; omega
  have d2 : decide ((n : Int) < 0) = false := by simp
  have d3 : decide ((n : Int) > 4096) = false := by simp; omega
  clear hbl hel hbs hkey hn ht hs
  have hB := Blk.new w #[.string key, .string nonce] 68
  have hW : Below w.heap.size w (w.alloc (Obj.cells #[.string key, .string nonce] 68)) := (Below.refl _ _).alloc (Nat.le_refl _) _
  go_enter Try.func11, Try.ntmps11
  go_wp2_with (first
    | (refine wpList_load_row rfl 68 (.tmp 10) rfl w.heap.size rfl 68 #[.string key, .string nonce] (0, 0) _ hB Try.underlying68 rfl (by kernel_rfl) ?_)
    | (go_at_call 35; refine (C0.out _).mono ?_; rintro e w1 ⟨rfl, hk1⟩))
  have hB1 := hB.callee hk1
  have hW1 := Below.callee hW hk1
  have c1 : w1.cell? ⟨w.heap.size, 0, none⟩ = some (.string key) := hB1.cell (k := 0) rfl
  have c2 : w1.cell? ⟨w.heap.size, 1, none⟩ = some (.string nonce) := hB1.cell (k := 1) rfl
  have hA : Below w1.heap.size w1 w1.drew := (Below.refl _ _).drew
  clear hk1 hW hB
  go_region_held3 (fun W => Below w.heap.size w W ∧ W.cell? ⟨w.heap.size, 0, none⟩ = some (.string key) ∧ W.cell? ⟨w.heap.size, 1, none⟩ = some (.string nonce))
    (first | assumption | exact ⟨hW1.drew, c1, c2⟩ | exact keepP (by assumption) hk2)
    ((go_at_call 36; refine (C3.out _).mono ?_; rintro e w2 ⟨rfl, hk2⟩; replace hA := Below.callee hA hk2))
  have hS2 : Below w.heap.size w w2 ∧ w2.cell? ⟨w.heap.size, 0, none⟩ = some (.string key) ∧ w2.cell? ⟨w.heap.size, 1, none⟩ = some (.string nonce) := by assumption
  go_wp2_with fail
  go_ret2
  exact ⟨rfl, hS2.1⟩
theorem open_bad (key nonce head sealed : ByteArray) (hz : sealed.size ≤ 9223372036854775807) (h : ¬ (((key.size = 16 ∨ key.size = 32) ∧ nonce.size = 12) ∧ head.size ≤ 4096 ∧ 16 ≤ sealed.size ∧ sealed.size ≤ 4112)) (w : World) :
    Calls Try.prog 11 #[.string key, .string nonce, .string head, .string sealed] w fun e w' => e = .returned (.tuple #[.string ⟨#[]⟩, .int .i64 4]) ∧ Below w.heap.size w w' := by
  have hB := Blk.new w #[.string key, .string nonce] 68
  have hW : Below w.heap.size w (w.alloc (Obj.cells #[.string key, .string nonce] 68)) := (Below.refl _ _).alloc (Nat.le_refl _) _
  have dw : IntKind.i64.wrap ((sealed.size : Int) - 16) = (sealed.size : Int) - 16 := IntWalk.i64_in _ (by omega)
  by_cases hr : (key.size = 16 ∨ key.size = 32) ∧ nonce.size = 12
  · have C0 : Hid (∀ w, Calls Try.prog 35 #[.agg #[.string key, .string nonce]] w fun e w' => e = .returned (.bool true) ∧ Below w.heap.size w w') := by
      exact right_yes key nonce (if key.size = 16 then 4 else 8) (by split <;> simp) (by split <;> omega) hr.2
    by_cases hh : head.size ≤ 4096
    · have d1 : decide ((head.size : Int) > 4096) = false := by simp; omega
      by_cases h16 : 16 ≤ sealed.size
      · have d2 : decide ((sealed.size : Int) - 16 < 0) = false := by simp; omega
        have d3 : decide ((sealed.size : Int) - 16 > 4096) = true := by
          have h4 : ¬ sealed.size ≤ 4112 := fun e => h ⟨hr, hh, h16, e⟩
          simp; omega
        clear h hh hr h16
        go_enter Try.func11, Try.ntmps11
        go_wp2_with (first
          | (refine wpList_load_row rfl 68 (.tmp 10) rfl w.heap.size rfl 68 #[.string key, .string nonce] (0, 0) _ hB Try.underlying68 rfl (by kernel_rfl) ?_)
          | (go_at_call 35; refine (C0.out _).mono ?_; rintro e w1 ⟨rfl, hk1⟩))
        go_ret2
        exact ⟨rfl, Below.callee hW hk1⟩
      · have d2 : decide ((sealed.size : Int) - 16 < 0) = true := by simp; omega
        clear h hh hr h16
        go_enter Try.func11, Try.ntmps11
        go_wp2_with (first
          | (refine wpList_load_row rfl 68 (.tmp 10) rfl w.heap.size rfl 68 #[.string key, .string nonce] (0, 0) _ hB Try.underlying68 rfl (by kernel_rfl) ?_)
          | (go_at_call 35; refine (C0.out _).mono ?_; rintro e w1 ⟨rfl, hk1⟩))
        go_ret2
        exact ⟨rfl, Below.callee hW hk1⟩
    · have d1 : decide ((head.size : Int) > 4096) = true := by simp; omega
      clear h hh hr
      go_enter Try.func11, Try.ntmps11
      go_wp2_with (first
        | (refine wpList_load_row rfl 68 (.tmp 10) rfl w.heap.size rfl 68 #[.string key, .string nonce] (0, 0) _ hB Try.underlying68 rfl (by kernel_rfl) ?_)
        | (go_at_call 35; refine (C0.out _).mono ?_; rintro e w1 ⟨rfl, hk1⟩))
      go_ret2
      exact ⟨rfl, Below.callee hW hk1⟩
  · have C0 : Hid (∀ w, Calls Try.prog 35 #[.agg #[.string key, .string nonce]] w fun e w' => e = .returned (.bool false) ∧ Below w.heap.size w w') := by
      exact right_no key nonce hr
    clear h hr
    go_enter Try.func11, Try.ntmps11
    go_wp2_with (first
      | (refine wpList_load_row rfl 68 (.tmp 10) rfl w.heap.size rfl 68 #[.string key, .string nonce] (0, 0) _ hB Try.underlying68 rfl (by kernel_rfl) ?_)
      | (go_at_call 35; refine (C0.out _).mono ?_; rintro e w1 ⟨rfl, hk1⟩))
    go_ret2
    exact ⟨rfl, Below.callee hW hk1⟩
end Go.Proofs.Ytieooonobjkglaa
