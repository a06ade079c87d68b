/- The contracts of gcm.Seal. No condition on the world. -/
import Derived.Test.YtieooonobjkglaaGcmC
namespace Go.Proofs.Ytieooonobjkglaa
open Go Go.Proofs Go.RowKit Go.Shelf SW
set_option maxRecDepth 20000
set_option maxHeartbeats 4000000
def Sx.sealOf (kk : Nat) (key nonce head text : List UInt8) : List UInt8 :=
  Sx.xorL text (Sx.stream kk key nonce 2 text.length) ++ Sx.tag kk key nonce head (Sx.xorL text (Sx.stream kk key nonce 2 text.length))
theorem Sx.sealOf_length (kk : Nat) (key nonce head text : List UInt8) : (Sx.sealOf kk key nonce head text).length = text.length + 16 := by
  rw [Sx.sealOf, List.length_append, Sx.xorL_length, Sx.tag_length]
theorem seal_any (kk : Nat) (hk : kk = 4 ∨ kk = 8) (key nonce head text : ByteArray) (hkey : key.size = 4 * kk) (hn : nonce.size = 12) (hh : head.size ≤ 4096) (ht : text.size ≤ 4096) (w : World) :
    Calls Try.prog 15 #[.string key, .string nonce, .string head, .string text] w fun e w' =>
      e = .returned (.tuple #[.string ⟨(Sx.sealOf kk key.data.toList nonce.data.toList head.data.toList text.data.toList).toArray⟩, .int .i64 0]) ∧ Below w.heap.size w w' := by
  have htl : text.data.toList.length = text.size := by simp
  have HR : Hid (Sx.sealOf kk key.data.toList nonce.data.toList head.data.toList text.data.toList = Sx.xorL text.data.toList (Sx.stream kk key.data.toList nonce.data.toList 2 text.size) ++ Sx.tag kk key.data.toList nonce.data.toList head.data.toList (Sx.xorL text.data.toList (Sx.stream kk key.data.toList nonce.data.toList 2 text.size))) := by
    unfold Sx.sealOf; rw [htl]; exact rfl
  have C0 : Hid (∀ w, Calls Try.prog 35 #[.agg #[.string key, .string nonce]] w fun e w' => e = .returned (.bool true) ∧ Below w.heap.size w w') := by exact right_yes key nonce kk hk hkey hn
  have C1 : Hid (∀ w, Calls Try.prog 37 #[.agg #[.string key, .string nonce], .int .u32 2, .int .i64 (text.size : Int)] w fun e w' => e = .returned (.func (.func 87) #[.string ⟨(Sx.stream kk key.data.toList nonce.data.toList 2 text.size).toArray⟩] #[]) ∧ Below w.heap.size w w') := by
    exact fun w => mask_any kk hk key nonce hkey hn 2 text.size (by omega) w
  have hml := Sx.stream_length kk key.data.toList nonce.data.toList 2 text.size
  generalize Sx.stream kk key.data.toList nonce.data.toList 2 text.size = sk at C1 HR hml
  have C2 : Hid (∀ w, Calls Try.prog 87 #[.string ⟨sk.toArray⟩, .string text] w fun e w' => e = .returned (.string ⟨(Sx.xorL text.data.toList sk).toArray⟩) ∧ Below w.heap.size w w') := by
    exact fun w => text_any ⟨sk.toArray⟩ text (by rw [ba_len sk]; omega) (by omega) w
  have hxl := Sx.xorL_length text.data.toList sk
  rw [htl] at hxl
  generalize Sx.xorL text.data.toList sk = xt at C2 HR hxl
  have C3 : Hid (∀ w, Calls Try.prog 36 #[.agg #[.string key, .string nonce], .string head, .string ⟨xt.toArray⟩] w fun e w' => e = .returned (.string ⟨(Sx.tag kk key.data.toList nonce.data.toList head.data.toList xt).toArray⟩) ∧ Below w.heap.size w w') := by
    exact fun w => tag_any kk hk key nonce head ⟨xt.toArray⟩ hkey hn (by omega) (by rw [ba_len]; omega) w
  have htg := Sx.tag_length kk key.data.toList nonce.data.toList head.data.toList xt
  generalize Sx.tag kk key.data.toList nonce.data.toList head.data.toList xt = tg at C3 HR htg
  have b1 : (⟨xt.toArray⟩ : ByteArray).size ≤ 4096 := by rw [ba_len]; omega
  have b2 : (⟨tg.toArray⟩ : ByteArray).size ≤ 16 := by rw [ba_len]; omega
  clear htl hml hxl htg hkey hn
  have hB := Blk.new w #[.string key, .string nonce] 68
  have hW : Below w.heap.size w (w.alloc (Obj.cells #[.string key, .string nonce] 68)) := (Below.refl _ _).alloc (Nat.le_refl _) _
  go_enter Try.func15, Try.ntmps15
  go_wp2_with (first
    | (refine wpList_load_row rfl 68 (.tmp 10) rfl w.heap.size rfl 68 #[.string key, .string nonce] (0, 0) _ (by first | exact hB | exact hB.callee hk1 | exact ((hB.callee hk1).callee hk2).callee hk3) Try.underlying68 rfl (by kernel_rfl) ?_)
    | (go_at_call 35; refine (C0.out _).mono ?_; rintro e w1 ⟨rfl, hk1⟩)
    | (go_at_call 37; refine (C1.out _).mono ?_; rintro e w2 ⟨rfl, hk2⟩)
    | (go_at_call 87; refine (C2.out _).mono ?_; rintro e w3 ⟨rfl, hk3⟩)
    | (go_at_call 36; refine (C3.out _).mono ?_; rintro e w4 ⟨rfl, hk4⟩))
  go_ret2
  rw [HR.out, str_add]
  exact ⟨rfl, Below.callee (Below.callee (Below.callee (Below.callee hW hk1) hk2) hk3) hk4⟩
theorem seal_bad (key nonce head text : ByteArray) (h : ¬ (((key.size = 16 ∨ key.size = 32) ∧ nonce.size = 12) ∧ head.size ≤ 4096 ∧ text.size ≤ 4096)) (w : World) :
    Calls Try.prog 15 #[.string key, .string nonce, .string head, .string text] w fun e w' => e = .returned (.tuple #[.string ⟨#[]⟩, .int .i64 4]) ∧ Below w.heap.size w w' := by
  have hB := Blk.new w #[.string key, .string nonce] 68
  have hW : Below w.heap.size w (w.alloc (Obj.cells #[.string key, .string nonce] 68)) := (Below.refl _ _).alloc (Nat.le_refl _) _
  by_cases hr : (key.size = 16 ∨ key.size = 32) ∧ nonce.size = 12
  · have C0 : Hid (∀ w, Calls Try.prog 35 #[.agg #[.string key, .string nonce]] w fun e w' => e = .returned (.bool true) ∧ Below w.heap.size w w') := by
      exact right_yes key nonce (if key.size = 16 then 4 else 8) (by split <;> simp) (by split <;> omega) hr.2
    by_cases hh : head.size ≤ 4096
    · have h2 : ¬ text.size ≤ 4096 := fun e => h ⟨hr, hh, e⟩
      have d1 : decide ((head.size : Int) > 4096) = false := by simp; omega
      have d2 : decide ((text.size : Int) > 4096) = true := by simp; omega
      clear h h2 hh hr
      go_enter Try.func15, Try.ntmps15
      go_wp2_with (first
        | (refine wpList_load_row rfl 68 (.tmp 10) rfl w.heap.size rfl 68 #[.string key, .string nonce] (0, 0) _ hB Try.underlying68 rfl (by kernel_rfl) ?_)
        | (go_at_call 35; refine (C0.out _).mono ?_; rintro e w1 ⟨rfl, hk1⟩))
      go_ret2
      exact ⟨rfl, Below.callee hW hk1⟩
    · have d1 : decide ((head.size : Int) > 4096) = true := by simp; omega
      clear h hh hr
      go_enter Try.func15, Try.ntmps15
      go_wp2_with (first
        | (refine wpList_load_row rfl 68 (.tmp 10) rfl w.heap.size rfl 68 #[.string key, .string nonce] (0, 0) _ hB Try.underlying68 rfl (by kernel_rfl) ?_)
        | (go_at_call 35; refine (C0.out _).mono ?_; rintro e w1 ⟨rfl, hk1⟩))
      go_ret2
      exact ⟨rfl, Below.callee hW hk1⟩
  · have C0 : Hid (∀ w, Calls Try.prog 35 #[.agg #[.string key, .string nonce]] w fun e w' => e = .returned (.bool false) ∧ Below w.heap.size w w') := by
      exact right_no key nonce hr
    clear h hr
    go_enter Try.func15, Try.ntmps15
    go_wp2_with (first
      | (refine wpList_load_row rfl 68 (.tmp 10) rfl w.heap.size rfl 68 #[.string key, .string nonce] (0, 0) _ hB Try.underlying68 rfl (by kernel_rfl) ?_)
      | (go_at_call 35; refine (C0.out _).mono ?_; rintro e w1 ⟨rfl, hk1⟩))
    go_ret2
    exact ⟨rfl, Below.callee hW hk1⟩
end Go.Proofs.Ytieooonobjkglaa
