/- The contracts of gcm's stream, text and mask. No condition on the world. -/
import Derived.Test.YtieooonobjkglaaBld
import Derived.Test.YtieooonobjkglaaAesF
namespace Go.Proofs.Ytieooonobjkglaa
open Go Go.Proofs Go.RowKit Go.Shelf SW
set_option maxRecDepth 20000
set_option maxHeartbeats 4000000
namespace Sx
def ctr (n : UInt32) : List UInt8 := [(n >>> 24).toUInt8, (n >>> 16).toUInt8, (n >>> 8).toUInt8, n.toUInt8]
/-- The first k blocks of a stream. -/
def streamN (kk : Nat) (key nonce : List UInt8) (from_ : UInt32) : Nat → List UInt8
  | 0 => []
  | k + 1 => streamN kk key nonce from_ k ++ aes kk key (nonce ++ ctr (from_ + UInt32.ofNat k))
theorem streamN_length (kk : Nat) (key nonce : List UInt8) (f : UInt32) : ∀ k, (streamN kk key nonce f k).length = 16 * k
  | 0 => rfl
  | k + 1 => by rw [streamN, List.length_append, streamN_length, aes_length]; omega
def stream (kk : Nat) (key nonce : List UInt8) (f : UInt32) (many : Nat) : List UInt8 := (streamN kk key nonce f ((many + 15) / 16)).take many
theorem stream_length (kk : Nat) (key nonce : List UInt8) (f : UInt32) (many : Nat) : (stream kk key nonce f many).length = many := by
  rw [stream, List.length_take, streamN_length]; omega
end Sx

theorem right_yes (key nonce : ByteArray) (kk : Nat) (hk : kk = 4 ∨ kk = 8) (hkey : key.size = 4 * kk) (hn : nonce.size = 12) (w : World) :
    Calls Try.prog 35 #[.agg #[.string key, .string nonce]] w fun e w' => e = .returned (.bool true) ∧ Below w.heap.size w w' := by
  have h1 : ((nonce.size : Int) == 12) = true := by rw [hn]; rfl
  have c1 := (Blk.new w #[.string key, .string nonce] 68).cell (k := 0) rfl
  have c2 := (Blk.new w #[.string key, .string nonce] 68).cell (k := 1) rfl
  rcases hk with rfl | rfl
  · have h2 : ((key.size : Int) == 16) = true := by rw [hkey]; rfl
    clear hkey hn
    go_enter Try.func35, Try.ntmps35
    go_wp2
    go_ret
    exact ⟨rfl, (Below.refl _ _).alloc (Nat.le_refl _) _⟩
  · have h2 : ((key.size : Int) == 16) = false := by rw [hkey]; rfl
    have h3 : ((key.size : Int) == 32) = true := by rw [hkey]; rfl
    clear hkey hn
    go_enter Try.func35, Try.ntmps35
    go_wp2
    go_ret
    exact ⟨rfl, (Below.refl _ _).alloc (Nat.le_refl _) _⟩
theorem right_no (key nonce : ByteArray) (h : ¬ ((key.size = 16 ∨ key.size = 32) ∧ nonce.size = 12)) (w : World) :
    Calls Try.prog 35 #[.agg #[.string key, .string nonce]] w fun e w' => e = .returned (.bool false) ∧ Below w.heap.size w w' := by
  have c1 := (Blk.new w #[.string key, .string nonce] 68).cell (k := 0) rfl
  have c2 := (Blk.new w #[.string key, .string nonce] 68).cell (k := 1) rfl
  by_cases h16 : key.size = 16
  · have h1 : ((nonce.size : Int) == 12) = false := beq_eq_false_iff_ne.2 (by omega)
    have h2 : ((key.size : Int) == 16) = true := by rw [h16]; rfl
    clear h16 h
    go_enter Try.func35, Try.ntmps35
    go_wp2
    go_ret
    exact ⟨rfl, (Below.refl _ _).alloc (Nat.le_refl _) _⟩
  · by_cases h32 : key.size = 32
    · have h1 : ((nonce.size : Int) == 12) = false := beq_eq_false_iff_ne.2 (by omega)
      have h2 : ((key.size : Int) == 16) = false := by rw [h32]; rfl
      have h3 : ((key.size : Int) == 32) = true := by rw [h32]; rfl
      clear h16 h32 h
      go_enter Try.func35, Try.ntmps35
      go_wp2
      go_ret
      exact ⟨rfl, (Below.refl _ _).alloc (Nat.le_refl _) _⟩
    · have h2 : ((key.size : Int) == 16) = false := beq_eq_false_iff_ne.2 (by omega)
      have h3 : ((key.size : Int) == 32) = false := beq_eq_false_iff_ne.2 (by omega)
      clear h16 h32 h
      go_enter Try.func35, Try.ntmps35
      go_wp2
      go_ret
      exact ⟨rfl, (Below.refl _ _).alloc (Nat.le_refl _) _⟩

theorem U32_b3 (a : UInt32) : U32 a / (16777216 : Int) % (256 : Int) = U8 (a >>> 24).toUInt8 := by unfold U32 U8; simp [UInt32.toNat_shiftRight, Nat.shiftRight_eq_div_pow]
theorem U32_b2 (a : UInt32) : U32 a / (65536 : Int) % (256 : Int) = U8 (a >>> 16).toUInt8 := by unfold U32 U8; simp [UInt32.toNat_shiftRight, Nat.shiftRight_eq_div_pow]
theorem U32_b1 (a : UInt32) : U32 a / (256 : Int) % (256 : Int) = U8 (a >>> 8).toUInt8 := by unfold U32 U8; simp [UInt32.toNat_shiftRight, Nat.shiftRight_eq_div_pow]
theorem U32_b0 (a : UInt32) : U32 a % (256 : Int) = U8 a.toUInt8 := by unfold U32 U8; simp
theorem U32_one (a : UInt32) : IntKind.u32.wrap (U32 a + 1) = U32 (a + 1) := U32_add a 1
theorem U32_one' (a : UInt32) : (U32 a + 1) % 4294967296 = U32 (a + 1) := by rw [← U32_one]; simp [IntKind.wrap, IntKind.bits, IntKind.signed]
theorem ctr_dist (f : UInt32) (j : Nat) (hj : j ≤ 400) : ((U32 (f + UInt32.ofNat j) - U32 f) % (4294967296 : Int)).toNat = j := by
  unfold U32
  simp only [UInt32.toNat_add, UInt32.toNat_ofNat']
  have := f.toNat_lt
  omega
theorem str_take {P : Program} (ty : TypeId) (ht : P.underlying ty = some .string) (l : List UInt8) (n : Nat) (hn : n ≤ l.length) (W : World) :
    (Instr.slice ty (.string ⟨l.toArray⟩) none (some (.int .i64 (n : Int))) none).run P W = .ok (.string ⟨(l.take n).toArray⟩) W := by
  have hs : (⟨l.toArray⟩ : ByteArray).size = l.length := by simp [ByteArray.size]
  rw [run_slice_string_h (ht := ht) (h0 := by omega) (h2 := by rw [hs]; omega)]
  congr 2
  apply ByteArray.ext
  apply Array.toList_inj.1
  simp [ByteArray.data_extract]
section
attribute [local go_sem] U32_b3 U32_b2 U32_b1 U32_b0 U32_one U32_one'
theorem stream_any (kk : Nat) (hk : kk = 4 ∨ kk = 8) (key nonce : ByteArray) (hkey : key.size = 4 * kk) (hn : nonce.size = 12) (f : UInt32) (many : Nat) (hm : many ≤ 5000) (w : World) :
    Calls Try.prog 86 #[.agg #[.string key, .string nonce], .int .u32 (U32 f), .int .i64 many] w fun e w' =>
      e = .returned (.string ⟨(Sx.stream kk key.data.toList nonce.data.toList f many).toArray⟩) ∧ Below w.heap.size w w' := by
  go_enter Try.func86, Try.ntmps86
  go_wp2_with fail
  have hS : ∃ W0 : World, ((w.alloc (Obj.cells #[.string key, .string nonce] 68)).alloc (Obj.cells #[.pointer none, .slice none 0 0] 80)) = W0 ∧
      Blk W0 w.heap.size #[.string key, .string nonce] 68 ∧ Bld w.heap.size (w.heap.size + 1) [] W0 ∧ Below w.heap.size w W0 :=
    ⟨_, rfl, (Blk.new _ _ _).alloc _, by have := Bld.new (B := w.heap.size) (w.alloc (Obj.cells #[.string key, .string nonce] 68)) (by simp); simpa using this,
      ((Below.refl _ _).alloc (Nat.le_refl _) _).alloc (by simp) _⟩
  obtain ⟨W0, hW0, g3, g7, gW⟩ := hS
  rw [hW0]
  clear hW0
  have HN := Lib.hid hn
  have HK := Lib.hid hkey
  clear hn hkey
  go_loopw [1] (fun fv wr => ∃ j : Nat, j ≤ (many + 15) / 16 ∧ fv = .int .u32 (U32 (f + UInt32.ofNat j)) ∧ Blk wr w.heap.size #[.string key, .string nonce] 68 ∧
      Bld w.heap.size (w.heap.size + 1) (Sx.streamN kk key.data.toList nonce.data.toList f j) wr ∧ Below w.heap.size w wr)
    (fun fv _ => 400 - ((intOf fv - U32 f) % 4294967296).toNat)
  case atStart => exact ⟨0, by omega, by simp, g3, g7, gW⟩
  case round =>
    clear g3 g7 gW
    obtain ⟨j, hj, rfl, g3, g7, gW⟩ := hrel
    have hlen := Sx.streamN_length kk key.data.toList nonce.data.toList f j
    by_cases hlt : 16 * j < many
    · generalize hacc : Sx.streamN kk key.data.toList nonce.data.toList f j = acc at g7 hlen
      have c1 : wr.cell? ⟨w.heap.size, 0, none⟩ = some (.string key) := g3.cell (k := 0) rfl
      have c2 : wr.cell? ⟨w.heap.size, 1, none⟩ = some (.string nonce) := g3.cell (k := 1) rfl
      have hd : 16 * (j : Int) < many := by omega
      generalize hfj : f + UInt32.ofNat j = fj
      have HACC := Lib.hid hacc
      have HFJ := Lib.hid hfj
      clear hacc hfj hlt
      have hb4 : (⟨(Sx.ctr fj).toArray⟩ : ByteArray).size = 4 := rfl
      have hB := Blk.new wr (bv (Sx.ctr fj)) 5
      have hcv := bytes_back (P := Try.prog) 32 9 5 Try.underlying32 Try.underlying5 Try.underlying9 hB 4 4 rfl
      have hWa : Below wr.heap.size wr (wr.alloc (Obj.cells (bv (Sx.ctr fj)) 5)) := (Below.refl _ _).alloc (Nat.le_refl _) _
      have hctr : Sx.ctr fj = [(fj >>> 24).toUInt8, (fj >>> 16).toUInt8, (fj >>> 8).toUInt8, fj.toUInt8] := rfl
      have hbv : bv (Sx.ctr fj) = #[.int .u8 (U8 (fj >>> 24).toUInt8), .int .u8 (U8 (fj >>> 16).toUInt8), .int .u8 (U8 (fj >>> 8).toUInt8), .int .u8 (U8 fj.toUInt8)] := rfl
      rw [hbv] at hcv hB hWa
      have hn12 : nonce.size ≤ 12 := by have := HN.out; omega
      have C1 : Hid (∀ w, Calls Try.prog 17 #[.string key, .string (nonce ++ ⟨(Sx.ctr fj).toArray⟩)] w fun e w' => e = .returned (.tuple #[.string ⟨(Sx.aes kk key.data.toList (nonce.data.toList ++ Sx.ctr fj)).toArray⟩, .int .i64 0]) ∧ Below w.heap.size w w') := by
        refine show ∀ w, _ from fun w => ?_
        have := encrypt_any kk hk key (nonce ++ ⟨(Sx.ctr fj).toArray⟩) HK.out (by rw [ByteArray.size_append, HN.out]; rfl) w
        rwa [show (nonce ++ ⟨(Sx.ctr fj).toArray⟩ : ByteArray).data.toList = nonce.data.toList ++ Sx.ctr fj by simp] at this
      have hstep : Sx.streamN kk key.data.toList nonce.data.toList f (j + 1) = acc ++ Sx.aes kk key.data.toList (nonce.data.toList ++ Sx.ctr fj) := by
        rw [Sx.streamN, HACC.out, HFJ.out]
      have hbl := Sx.aes_length kk key.data.toList (nonce.data.toList ++ Sx.ctr fj)
      generalize Sx.aes kk key.data.toList (nonce.data.toList ++ Sx.ctr fj) = blk at C1 hstep hbl
      have hbl' : (⟨blk.toArray⟩ : ByteArray).size = 16 := by simpa [ByteArray.size] using hbl
      have HST := Lib.hid hstep
      clear hstep hbl
      generalize Sx.ctr fj = cf at hb4 hcv C1
      clear hctr hbv
      go_wp2_with (first
        | (go_at_call 46; refine (bld_len _ _ _ _ g7).mono ?_; rintro e w1 ⟨rfl, rfl⟩)
        | (go_at_call 17; refine (C1.out _).mono ?_; rintro e w1 ⟨rfl, hk1⟩)
        | (go_at_call 45; refine (bld_write w.heap.size _ acc ⟨blk.toArray⟩ _ ((g7.below hWa).below hk1) (by rw [hlen, hbl']; omega) (by have := (Below.callee (Below.callee gW hWa) hk1).size; exact this)).mono ?_; rintro e w2 ⟨rfl, hb2, hk2, ho2⟩))
      go_roundw
      case rel =>
        refine ⟨j + 1, by omega, ?_, ((g3.callee hWa).callee hk1).others ho2 (by omega) (by decide), ?_, (Below.callee (Below.callee gW hWa) hk1).trans hk2⟩
        · rw [← HFJ.out]
          congr 2
          rw [UInt32.add_assoc, UInt32.ofNat_add]
          rfl
        · rw [HST.out]; exact hb2
      case measure =>
        have e := HFJ.out
        have e2 : fj + 1 = f + UInt32.ofNat (j + 1) := by rw [← e, UInt32.add_assoc, UInt32.ofNat_add]; rfl
        have d1 := ctr_dist f j (by omega)
        have d2 := ctr_dist f (j + 1) (by omega)
        rw [e] at d1
        rw [← e2] at d2
        simp [intOf, d1, d2]
        omega
    · obtain rfl : j = (many + 15) / 16 := by omega
      have hd : ¬ (16 * (((many + 15) / 16 : Nat) : Int) < many) := by omega
      have HR : Hid (Sx.stream kk key.data.toList nonce.data.toList f many = (Sx.streamN kk key.data.toList nonce.data.toList f ((many + 15) / 16)).take many) := by exact rfl
      generalize hj9 : (many + 15) / 16 = j at *
      generalize Sx.streamN kk key.data.toList nonce.data.toList f j = acc at *
      have hsl := fun W => str_take (P := Try.prog) 9 Try.underlying9 acc many (by omega) W
      have gs := gW.size
      clear hj9 hlt
      go_wp2_with (first
        | (go_at_call 46; refine (bld_len _ _ _ _ g7).mono ?_; rintro e w1 ⟨rfl, rfl⟩)
        | (go_at_call 47; refine (bld_string w.heap.size _ acc _ g7 gs).mono ?_; rintro e w2 ⟨rfl, hb2, hk2, ho2⟩))
      go_ret
      rw [HR.out]
      exact ⟨rfl, gW.trans hk2⟩
end
end Go.Proofs.Ytieooonobjkglaa
