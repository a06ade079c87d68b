/- The contract of gcm's tag. No condition on the world. -/
import Derived.Test.YtieooonobjkglaaGcmB
namespace Go.Proofs.Ytieooonobjkglaa
open Go Go.Proofs Go.RowKit Go.Shelf SW
set_option maxRecDepth 20000
set_option maxHeartbeats 4000000
/-- The key of the sum. -/
def Sx.hkey (kk : Nat) (key : List UInt8) : List UInt8 := Sx.aes kk key (List.replicate 16 0)
def Sx.tag (kk : Nat) (key nonce head text : List UInt8) : List UInt8 := Sx.xorL (Sx.sum (Sx.hkey kk key) head text) (Sx.stream kk key nonce 1 16)
theorem Sx.sum_length (h a s : List UInt8) : (Sx.sum h a s).length = 16 := Sx.polyBlock_length _
theorem Sx.xorL_length (s m : List UInt8) : (Sx.xorL s m).length = s.length := by simp [Sx.xorL]
theorem Sx.tag_length (kk : Nat) (key nonce head text : List UInt8) : (Sx.tag kk key nonce head text).length = 16 := by rw [Sx.tag, Sx.xorL_length, Sx.sum_length]
/-- Some bytes 0. -/
theorem zeros_call (n : Nat) (hn : n ≤ 100000) (w : World) : Calls Try.prog 16 #[.string ⟨#[0]⟩, .int .i64 n] w fun e w' => e = .returned (.string ⟨(List.replicate n 0).toArray⟩) ∧ Below w.heap.size w w' := by
  have := Try.strings_Repeat ⟨#[0]⟩ n w (by omega) (by simp [ByteArray.size]; omega)
  rwa [show Lib.repeatL (⟨#[0]⟩ : ByteArray).data.toList n = List.replicate n 0 by
    show Lib.repeatL ([0] : List UInt8) n = _
    rw [show ([0] : List UInt8) = List.replicate 1 0 from rfl, Lib.repeatL_replicate, Nat.mul_one]] at this
theorem ba_len (l : List UInt8) : (⟨l.toArray⟩ : ByteArray).size = l.length := by simp [ByteArray.size]
/-- A fact of one cell, kept by what calls make. -/
theorem keepC {w W1 W2 : World} {a : Addr} {v : Value} (h : Below w.heap.size w W1 ∧ W1.cell? a = some v) (hk : Below W1.heap.size W1 W2) : Below w.heap.size w W2 ∧ W2.cell? a = some v :=
  ⟨Below.callee h.1 hk, (hk.cell (World.block_lt_of_cell? _ _ h.2)).trans h.2⟩
theorem tag_any (kk : Nat) (hk : kk = 4 ∨ kk = 8) (key nonce head text : ByteArray) (hkey : key.size = 4 * kk) (hn : nonce.size = 12) (hh : head.size ≤ 100000) (ht : text.size ≤ 100000) (w : World) :
    Calls Try.prog 36 #[.agg #[.string key, .string nonce], .string head, .string text] w fun e w' =>
      e = .returned (.string ⟨(Sx.tag kk key.data.toList nonce.data.toList head.data.toList text.data.toList).toArray⟩) ∧ Below w.heap.size w w' := by
  have HR : Hid (Sx.tag kk key.data.toList nonce.data.toList head.data.toList text.data.toList = Sx.xorL (Sx.sum (Sx.hkey kk key.data.toList) head.data.toList text.data.toList) (Sx.stream kk key.data.toList nonce.data.toList 1 16)) := by exact rfl
  have C0 : Hid (∀ w, Calls Try.prog 16 #[.string ⟨#[0]⟩, .int .i64 16] w fun e w' => e = .returned (.string ⟨(List.replicate 16 0).toArray⟩) ∧ Below w.heap.size w w') := by exact fun w => zeros_call 16 (by omega) w
  have C1 : Hid (∀ w, Calls Try.prog 17 #[.string key, .string ⟨(List.replicate 16 0).toArray⟩] w fun e w' => e = .returned (.tuple #[.string ⟨(Sx.hkey kk key.data.toList).toArray⟩, .int .i64 0]) ∧ Below w.heap.size w w') := by
    exact fun w => encrypt_any kk hk key ⟨(List.replicate 16 0).toArray⟩ hkey rfl w
  have C2 : Hid (∀ w, Calls Try.prog 85 #[.string ⟨(Sx.hkey kk key.data.toList).toArray⟩, .string head, .string text] w fun e w' => e = .returned (.tuple #[.string ⟨(Sx.sum (Sx.hkey kk key.data.toList) head.data.toList text.data.toList).toArray⟩, .int .i64 0]) ∧ Below w.heap.size w w') := by
    exact fun w => sum_any ⟨(Sx.hkey kk key.data.toList).toArray⟩ head text (by rw [ba_len]; exact Sx.aes_length _ _ _) hh ht w
  have C3 : Hid (∀ w, Calls Try.prog 37 #[.agg #[.string key, .string nonce], .int .u32 1, .int .i64 16] w fun e w' => e = .returned (.func (.func 87) #[.string ⟨(Sx.stream kk key.data.toList nonce.data.toList 1 16).toArray⟩] #[]) ∧ Below w.heap.size w w') := by
    exact fun w => mask_any kk hk key nonce hkey hn 1 16 (by omega) w
  have hsl : (Sx.sum (Sx.hkey kk key.data.toList) head.data.toList text.data.toList).length = 16 := Sx.sum_length _ _ _
  have hml : (Sx.stream kk key.data.toList nonce.data.toList 1 16).length = 16 := Sx.stream_length _ _ _ _ _
  generalize Sx.sum (Sx.hkey kk key.data.toList) head.data.toList text.data.toList = sm at C2 HR hsl
  generalize Sx.stream kk key.data.toList nonce.data.toList 1 16 = sk at C3 HR hml
  generalize Sx.hkey kk key.data.toList = hk' at C1 C2
  have C4 : Hid (∀ w, Calls Try.prog 87 #[.string ⟨sk.toArray⟩, .string ⟨sm.toArray⟩] w fun e w' => e = .returned (.string ⟨(Sx.xorL sm sk).toArray⟩) ∧ Below w.heap.size w w') := by
    exact fun w => text_any ⟨sk.toArray⟩ ⟨sm.toArray⟩ (by rw [ba_len, ba_len]; omega) (by rw [ba_len]; omega) w
  clear hsl hml hkey hn
  generalize (List.replicate 16 (0 : UInt8)) = zz at C0 C1
  have hB := Blk.new w #[.string key, .string nonce] 68
  have hW : Below w.heap.size w (w.alloc (Obj.cells #[.string key, .string nonce] 68)) := (Below.refl _ _).alloc (Nat.le_refl _) _
  go_enter Try.func36, Try.ntmps36
  go_wp2_with fail
  generalize w.alloc (Obj.cells #[.string key, .string nonce] 68) = W0 at hB hW ⊢
  have c1 : W0.cell? ⟨w.heap.size, 0, none⟩ = some (.string key) := hB.cell (k := 0) rfl
  have hA : Below W0.heap.size W0 W0.drew := (Below.refl _ _).drew
  go_region_held3 (fun W => Below w.heap.size w W ∧ W.cell? ⟨w.heap.size, 0, none⟩ = some (.string key))
    (first | assumption | exact ⟨hW.drew, c1⟩ | exact keepC (by assumption) hk1)
    (((first | (go_at_call 16; refine (C0.out _).mono ?_) | (go_at_call 17; refine (C1.out _).mono ?_)); rintro e w1 ⟨rfl, hk1⟩; replace hA := Below.callee hA hk1))
  have hB1 := hB.callee hA
  have hW1 := Below.callee hW hA
  go_wp2_with (first
    | (refine wpList_load_row rfl 68 _ rfl w.heap.size rfl 68 _ (0, 0) _ (hB1.callee hk2) Try.underlying68 rfl (by kernel_rfl) ?_)
    | (go_at_call 85; refine (C2.out _).mono ?_; rintro e w2 ⟨rfl, hk2⟩)
    | (go_at_call 37; refine (C3.out _).mono ?_; rintro e w3 ⟨rfl, hk3⟩)
    | (go_at_call 87; refine (C4.out _).mono ?_; rintro e w4 ⟨rfl, hk4⟩))
  go_ret
  rw [HR.out]
  exact ⟨rfl, Below.callee (Below.callee (Below.callee hW1 hk2) hk3) hk4⟩
end Go.Proofs.Ytieooonobjkglaa
