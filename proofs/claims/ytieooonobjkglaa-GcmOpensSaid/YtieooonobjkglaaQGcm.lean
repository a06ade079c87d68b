/- The contracts of gcm's stream, text and mask. No condition on the world. -/
import Derived.Test.YtieooonobjkglaaQBld
import Derived.Test.YtieooonobjkglaaQKeys
namespace Go.Proofs.Ytieooonobjkglaa
open Go Go.Proofs Go.RowKit Go.Shelf SW
set_option maxRecDepth 20000
set_option maxHeartbeats 4000000
namespace Sx
def ctr (n : UInt32) : List UInt8 := [(n >>> 24).toUInt8, (n >>> 16).toUInt8, (n >>> 8).toUInt8, n.toUInt8]
/-- The first k blocks of a stream. -/
def streamN (kk : Nat) (key nonce : List UInt8) (from_ : UInt32) : Nat → List UInt8
  | 0 => []
  | k + 1 => streamN kk key nonce from_ k ++ aes kk key (nonce ++ ctr (from_ + UInt32.ofNat k))
theorem streamN_length (kk : Nat) (key nonce : List UInt8) (f : UInt32) : ∀ k, (streamN kk key nonce f k).length = 16 * k
  | 0 => rfl
  | k + 1 => by rw [streamN, List.length_append, streamN_length, aes_length]; omega
def stream (kk : Nat) (key nonce : List UInt8) (f : UInt32) (many : Nat) : List UInt8 := (streamN kk key nonce f ((many + 15) / 16)).take many
theorem stream_length (kk : Nat) (key nonce : List UInt8) (f : UInt32) (many : Nat) : (stream kk key nonce f many).length = many := by
  rw [stream, List.length_take, streamN_length]; omega
end Sx

theorem right_yes (key nonce : ByteArray) (kk : Nat) (hk : kk = 4 ∨ kk = 8) (hkey : key.size = 4 * kk) (hn : nonce.size = 12) (w : World) :
    Calls Try.prog 35 #[.agg #[.string key, .string nonce]] w fun e w' => e = .returned (.bool true) ∧ Below w.heap.size w w' := by
  have h1 : ((nonce.size : Int) == 12) = true := by rw [hn]; rfl
  have c1 := (Blk.new w #[.string key, .string nonce] 68).cell (k := 0) rfl
  have c2 := (Blk.new w #[.string key, .string nonce] 68).cell (k := 1) rfl
  rcases hk with rfl | rfl
  · have h2 : ((key.size : Int) == 16) = true := by rw [hkey]; rfl
    clear hkey hn
    go_enter Try.func35, Try.ntmps35
    go_wp2
    go_ret
    exact ⟨rfl, (Below.refl _ _).alloc (Nat.le_refl _) _⟩
  · have h2 : ((key.size : Int) == 16) = false := by rw [hkey]; rfl
    have h3 : ((key.size : Int) == 32) = true := by rw [hkey]; rfl
    clear hkey hn
    go_enter Try.func35, Try.ntmps35
    go_wp2
    go_ret
    exact ⟨rfl, (Below.refl _ _).alloc (Nat.le_refl _) _⟩
theorem right_no (key nonce : ByteArray) (h : ¬ ((key.size = 16 ∨ key.size = 32) ∧ nonce.size = 12)) (w : World) :
    Calls Try.prog 35 #[.agg #[.string key, .string nonce]] w fun e w' => e = .returned (.bool false) ∧ Below w.heap.size w w' := by
  have c1 := (Blk.new w #[.string key, .string nonce] 68).cell (k := 0) rfl
  have c2 := (Blk.new w #[.string key, .string nonce] 68).cell (k := 1) rfl
  by_cases h16 : key.size = 16
  · have h1 : ((nonce.size : Int) == 12) = false := beq_eq_false_iff_ne.2 (by omega)
    have h2 : ((key.size : Int) == 16) = true := by rw [h16]; rfl
    clear h16 h
    go_enter Try.func35, Try.ntmps35
    go_wp2
    go_ret
    exact ⟨rfl, (Below.refl _ _).alloc (Nat.le_refl _) _⟩
  · by_cases h32 : key.size = 32
    · have h1 : ((nonce.size : Int) == 12) = false := beq_eq_false_iff_ne.2 (by omega)
      have h2 : ((key.size : Int) == 16) = false := by rw [h32]; rfl
      have h3 : ((key.size : Int) == 32) = true := by rw [h32]; rfl
      clear h16 h32 h
      go_enter Try.func35, Try.ntmps35
      go_wp2
      go_ret
      exact ⟨rfl, (Below.refl _ _).alloc (Nat.le_refl _) _⟩
    · have h2 : ((key.size : Int) == 16) = false := beq_eq_false_iff_ne.2 (by omega)
      have h3 : ((key.size : Int) == 32) = false := beq_eq_false_iff_ne.2 (by omega)
      clear h16 h32 h
      go_enter Try.func35, Try.ntmps35
      go_wp2
      go_ret
      exact ⟨rfl, (Below.refl _ _).alloc (Nat.le_refl _) _⟩

theorem U32_b3 (a : UInt32) : U32 a / (16777216 : Int) % (256 : Int) = U8 (a >>> 24).toUInt8 := by unfold U32 U8; simp [UInt32.toNat_shiftRight, Nat.shiftRight_eq_div_pow]
theorem U32_b2 (a : UInt32) : U32 a / (65536 : Int) % (256 : Int) = U8 (a >>> 16).toUInt8 := by unfold U32 U8; simp [UInt32.toNat_shiftRight, Nat.shiftRight_eq_div_pow]
theorem U32_b1 (a : UInt32) : U32 a / (256 : Int) % (256 : Int) = U8 (a >>> 8).toUInt8 := by unfold U32 U8; simp [UInt32.toNat_shiftRight, Nat.shiftRight_eq_div_pow]
theorem U32_b0 (a : UInt32) : U32 a % (256 : Int) = U8 a.toUInt8 := by unfold U32 U8; simp
theorem U32_one (a : UInt32) : IntKind.u32.wrap (U32 a + 1) = U32 (a + 1) := U32_add a 1
theorem U32_one' (a : UInt32) : (U32 a + 1) % 4294967296 = U32 (a + 1) := by rw [← U32_one]; simp [IntKind.wrap, IntKind.bits, IntKind.signed]
theorem ctr_dist (f : UInt32) (j : Nat) (hj : j ≤ 400) : ((U32 (f + UInt32.ofNat j) - U32 f) % (4294967296 : Int)).toNat = j := by
  unfold U32
  simp only [UInt32.toNat_add, UInt32.toNat_ofNat']
  have := f.toNat_lt
  omega
theorem str_take {P : Program} (ty : TypeId) (ht : P.underlying ty = some .string) (l : List UInt8) (n : Nat) (hn : n ≤ l.length) (W : World) :
    (Instr.slice ty (.string ⟨l.toArray⟩) none (some (.int .i64 (n : Int))) none).run P W = .ok (.string ⟨(l.take n).toArray⟩) W := by
  have hs : (⟨l.toArray⟩ : ByteArray).size = l.length := by simp [ByteArray.size]
  rw [run_slice_string_h (ht := ht) (h0 := by omega) (h2 := by rw [hs]; omega)]
  congr 2
  apply ByteArray.ext
  apply Array.toList_inj.1
  simp [ByteArray.data_extract]
section
attribute [local go_sem] U32_b3 U32_b2 U32_b1 U32_b0 U32_one U32_one'
theorem stream_any (kk : Nat) (hk : kk = 4 ∨ kk = 8) (key nonce : ByteArray) (hkey : key.size = 4 * kk) (hn : nonce.size = 12) (f : UInt32) (many : Nat) (hm : many ≤ 5000) (w : World) :
    Calls Try.prog 86 #[.agg #[.string key, .string nonce], .int .u32 (U32 f), .int .i64 many] w fun e w' =>
      e = .returned (.string ⟨(Sx.stream kk key.data.toList nonce.data.toList f many).toArray⟩) ∧ Below w.heap.size w w' := by
  go_enter Try.func86, Try.ntmps86
  go_wp2_with fail
  have hS : ∃ W0 : World, ((w.alloc (Obj.cells #[.string key, .string nonce] 68)).alloc (Obj.cells #[.pointer none, .slice none 0 0] 80)) = W0 ∧
      Blk W0 w.heap.size #[.string key, .string nonce] 68 ∧ Bld w.heap.size (w.heap.size + 1) [] W0 ∧ Below w.heap.size w W0 :=
    ⟨_, rfl, (Blk.new _ _ _).alloc _, by have := Bld.new (B := w.heap.size) (w.alloc (Obj.cells #[.string key, .string nonce] 68)) (by simp); simpa using this,
      ((Below.refl _ _).alloc (Nat.le_refl _) _).alloc (by simp) _⟩
  obtain ⟨W0, hW0, g3, g7, gW⟩ := hS
  rw [hW0]
  clear hW0
  have HN := Lib.hid hn
  have HK := Lib.hid hkey
  clear hn hkey
  go_loopw [1] (fun fv wr => ∃ j : Nat, j ≤ (many + 15) / 16 ∧ fv = .int .u32 (U32 (f + UInt32.ofNat j)) ∧ Blk wr w.heap.size #[.string key, .string nonce] 68 ∧
      Bld w.heap.size (w.heap.size + 1) (Sx.streamN kk key.data.toList nonce.data.toList f j) wr ∧ Below w.heap.size w wr)
    (fun fv _ => 400 - ((intOf fv - U32 f) % 4294967296).toNat)
  case atStart => exact ⟨0, by omega, by simp, g3, g7, gW⟩
  case round =>
    clear g3 g7 gW
    obtain ⟨j, hj, rfl, g3, g7, gW⟩ := hrel
    have hlen := Sx.streamN_length kk key.data.toList nonce.data.toList f j
    by_cases hlt : 16 * j < many
    · generalize hacc : Sx.streamN kk key.data.toList nonce.data.toList f j = acc at g7 hlen
      have c1 : wr.cell? ⟨w.heap.size, 0, none⟩ = some (.string key) := g3.cell (k := 0) rfl
      have c2 : wr.cell? ⟨w.heap.size, 1, none⟩ = some (.string nonce) := g3.cell (k := 1) rfl
      have hd : 16 * (j : Int) < many := by omega
      generalize hfj : f + UInt32.ofNat j = fj
      have HACC := Lib.hid hacc
      have HFJ := Lib.hid hfj
      clear hacc hfj hlt
      have hb4 : (⟨(Sx.ctr fj).toArray⟩ : ByteArray).size = 4 := rfl
      have hB := Blk.new wr (bv (Sx.ctr fj)) 5
      have hcv := bytes_back (P := Try.prog) 32 9 5 Try.underlying32 Try.underlying5 Try.underlying9 hB 4 4 rfl
      have hWa : Below wr.heap.size wr (wr.alloc (Obj.cells (bv (Sx.ctr fj)) 5)) := (Below.refl _ _).alloc (Nat.le_refl _) _
      have hctr : Sx.ctr fj = [(fj >>> 24).toUInt8, (fj >>> 16).toUInt8, (fj >>> 8).toUInt8, fj.toUInt8] := rfl
      have hbv : bv (Sx.ctr fj) = #[.int .u8 (U8 (fj >>> 24).toUInt8), .int .u8 (U8 (fj >>> 16).toUInt8), .int .u8 (U8 (fj >>> 8).toUInt8), .int .u8 (U8 fj.toUInt8)] := rfl
      rw [hbv] at hcv hB hWa
      have hn12 : nonce.size ≤ 12 := by have := HN.out; omega
      have C1 : Hid (∀ w, Calls Try.prog 17 #[.string key, .string (nonce ++ ⟨(Sx.ctr fj).toArray⟩)] w fun e w' => e = .returned (.tuple #[.string ⟨(Sx.aes kk key.data.toList (nonce.data.toList ++ Sx.ctr fj)).toArray⟩, .int .i64 0]) ∧ Below w.heap.size w w') := by
        refine show ∀ w, _ from fun w => ?_
        have := encrypt_any kk hk key (nonce ++ ⟨(Sx.ctr fj).toArray⟩) HK.out (by rw [ByteArray.size_append, HN.out]; rfl) w
        rwa [show (nonce ++ ⟨(Sx.ctr fj).toArray⟩ : ByteArray).data.toList = nonce.data.toList ++ Sx.ctr fj by simp] at this
      have hstep : Sx.streamN kk key.data.toList nonce.data.toList f (j + 1) = acc ++ Sx.aes kk key.data.toList (nonce.data.toList ++ Sx.ctr fj) := by
        rw [Sx.streamN, HACC.out, HFJ.out]
      have hbl := Sx.aes_length kk key.data.toList (nonce.data.toList ++ Sx.ctr fj)
      generalize Sx.aes kk key.data.toList (nonce.data.toList ++ Sx.ctr fj) = blk at C1 hstep hbl
      have hbl' : (⟨blk.toArray⟩ : ByteArray).size = 16 := by simpa [ByteArray.size] using hbl
      have HST := Lib.hid hstep
      clear hstep hbl
      generalize Sx.ctr fj = cf at hb4 hcv C1
      clear hctr hbv
      go_wp2_with (first
        | (go_at_call 46; refine (bld_len _ _ _ _ g7).mono ?_; rintro e w1 ⟨rfl, rfl⟩)
        | (go_at_call 17; refine (C1.out _).mono ?_; rintro e w1 ⟨rfl, hk1⟩)
        | (go_at_call 45; refine (bld_write w.heap.size _ acc ⟨blk.toArray⟩ _ ((g7.below hWa).below hk1) (by rw [hlen, hbl']; omega) (by have := (Below.callee (Below.callee gW hWa) hk1).size; exact this)).mono ?_; rintro e w2 ⟨rfl, hb2, hk2, ho2⟩))
      go_roundw
      case rel =>
        refine ⟨j + 1, by omega, ?_, ((g3.callee hWa).callee hk1).others ho2 (by omega) (by decide), ?_, (Below.callee (Below.callee gW hWa) hk1).trans hk2⟩
        · rw [← HFJ.out]
          congr 2
          rw [UInt32.add_assoc, UInt32.ofNat_add]
          rfl
        · rw [HST.out]; exact hb2
      case measure =>
        have e := HFJ.out
        have e2 : fj + 1 = f + UInt32.ofNat (j + 1) := by rw [← e, UInt32.add_assoc, UInt32.ofNat_add]; rfl
        have d1 := ctr_dist f j (by omega)
        have d2 := ctr_dist f (j + 1) (by omega)
        rw [e] at d1
        rw [← e2] at d2
        simp [intOf, d1, d2]
        omega
    · obtain rfl : j = (many + 15) / 16 := by omega
      have hd : ¬ (16 * (((many + 15) / 16 : Nat) : Int) < many) := by omega
      have HR : Hid (Sx.stream kk key.data.toList nonce.data.toList f many = (Sx.streamN kk key.data.toList nonce.data.toList f ((many + 15) / 16)).take many) := by exact rfl
      generalize hj9 : (many + 15) / 16 = j at *
      generalize Sx.streamN kk key.data.toList nonce.data.toList f j = acc at *
      have hsl := fun W => str_take (P := Try.prog) 9 Try.underlying9 acc many (by omega) W
      have gs := gW.size
      clear hj9 hlt
      go_wp2_with (first
        | (go_at_call 46; refine (bld_len _ _ _ _ g7).mono ?_; rintro e w1 ⟨rfl, rfl⟩)
        | (go_at_call 47; refine (bld_string w.heap.size _ acc _ g7 gs).mono ?_; rintro e w2 ⟨rfl, hb2, hk2, ho2⟩))
      go_ret
      rw [HR.out]
      exact ⟨rfl, gW.trans hk2⟩
end
end Go.Proofs.Ytieooonobjkglaa
namespace Go.Proofs.Ytieooonobjkglaa
open Go Go.Proofs Go.RowKit Go.Shelf SW
set_option maxRecDepth 20000
set_option maxHeartbeats 4000000
/-- A text xor another one. -/
def Sx.xorL (s m : List UInt8) : List UInt8 := (List.range s.length).map fun i => s.getD i 0 ^^^ m.getD i 0
section
attribute [local go_sem] U8_xor U8_fold
theorem text_any (m s : ByteArray) (hms : s.size ≤ m.size) (hs : s.size ≤ 100000) (w : World) : Calls Try.prog 87 #[.string m, .string s] w fun e w' =>
    e = .returned (.string ⟨(Sx.xorL s.data.toList m.data.toList).toArray⟩) ∧ Below w.heap.size w w' := by
  have hmx : Try.prog.toTables.follows .mixedOrders = true := by kernel_rfl
  have hconv := run_bytes_of_string w 9 32 5 s Try.underlying9 Try.underlying32 Try.underlying5
  have hO := Own.of_bytes (base := w.heap.size) s w 5 (grownCap w s.size 0 5) (grownCap_ge _ _ _ _) (Nat.le_refl _)
  have hcg := grownCap_ge w s.size 0 5
  have hW := (Below.refl w.heap.size w).drew.alloc (Nat.le_refl _) (Obj.cells (bytesRow s (grownCap w s.size 0 5)) 5 ((bytesRow s (grownCap w s.size 0 5)).size, (bytesRow s (grownCap w s.size 0 5)).size + 1))
  generalize hW0 : w.drew.alloc (Obj.cells (bytesRow s (grownCap w s.size 0 5)) 5 ((bytesRow s (grownCap w s.size 0 5)).size, (bytesRow s (grownCap w s.size 0 5)).size + 1)) = W0 at hconv hO hW
  clear hW0
  generalize grownCap w s.size 0 5 = cp0 at hconv hO hcg ⊢
  have hlen : s.data.toList.length = s.size := by simp
  have HR : Hid (Sx.xorL s.data.toList m.data.toList = (List.range s.size).map fun i => s.data.toList.getD i 0 ^^^ m.data.toList.getD i 0) := by
    unfold Sx.xorL; rw [hlen]; exact rfl
  go_enter Try.func87, Try.ntmps87
  go_wp2
  go_loopw [6, 11] (fun _ iv wr => ∃ k : Nat, k ≤ s.size ∧ iv = .int .i64 k ∧
      Own wr w.heap.size 1 (.slice (some ⟨w.heap.size, 0, none⟩) s.size cp0) s.size (bv (Sx.gens (fun i => s.data.toList.getD i 0 ^^^ m.data.toList.getD i 0) (fun i => s.data.toList.getD i 0) s.size k)).toList ∧ Below w.heap.size w wr)
    (fun _ iv _ => s.size - (intOf iv).toNat)
  case atStart =>
    refine ⟨0, by omega, rfl, ?_, hW⟩
    rw [Sx.gens_zero, Sx.range_getD _ _ _ hlen]
    exact hO
  case round =>
    clear hO hW hconv
    obtain ⟨k, hk, rfl, hO, hW⟩ := hrel
    by_cases hlt : k < s.size
    · have hkm : k < m.size := by omega
      have hc := hO.cells k (.int .u8 (U8 (s.data.toList.getD k 0))) (by
        have := bv_at _ k _ (Sx.gens_get (fun i => s.data.toList.getD i 0 ^^^ m.data.toList.getD i 0) (fun i => s.data.toList.getD i 0) s.size k k hlt)
        rw [if_neg (Nat.lt_irrefl k)] at this
        rw [Array.getElem?_toList]; exact this)
      have hf := hO.free k (by omega)
      generalize hx : s.data.toList.getD k 0 = x at hc
      have HX := Lib.hid hx
      clear hx hlen
      go_wp2_with (refine wp_tail 9 hmx (by kernel_rfl) ?_; simp only [List.take_succ_cons, List.take_zero, List.drop_succ_cons, List.drop_zero]; (repeat still_step); refine wpStill_nil ?_)
      go_roundw
      case rel =>
        refine ⟨k + 1, by omega, by go_num, ?_, (hW.drew).setCell (Nat.le_refl _) _⟩
        rw [← Sx.gens_set, ← bv_set, Array.toList_setIfInBounds]
        rw [HX.out, str_getD m k hkm]
        exact (hO.drew).stored k _
      case measure => simp [intOf]; omega
    · obtain rfl : k = s.size := by omega
      rw [Sx.gens_all, ← HR.out] at hO
      have hln : (Sx.xorL s.data.toList m.data.toList).length = s.size := by rw [HR.out]; simp
      have hcv := bytes_back_at (P := Try.prog) 32 9 5 Try.underlying32 Try.underlying5 Try.underlying9 (W := wr) (b := w.heap.size) (o := 0) (l := Sx.xorL s.data.toList m.data.toList)
        (fun j hj => by rw [Nat.zero_add]; exact hO.cells j _ (by rw [Array.getElem?_toList]; exact bv_get _ j hj)) s.size cp0 hln
      clear HR hlen hln
      go_wp2
      go_ret
      exact ⟨rfl, hW⟩
theorem mask_any (kk : Nat) (hk : kk = 4 ∨ kk = 8) (key nonce : ByteArray) (hkey : key.size = 4 * kk) (hn : nonce.size = 12) (f : UInt32) (many : Nat) (hm : many ≤ 5000) (w : World) :
    Calls Try.prog 37 #[.agg #[.string key, .string nonce], .int .u32 (U32 f), .int .i64 many] w fun e w' =>
      e = .returned (.func (.func 87) #[.string ⟨(Sx.stream kk key.data.toList nonce.data.toList f many).toArray⟩] #[]) ∧ Below w.heap.size w w' := by
  have hB := Blk.new w #[.string key, .string nonce] 68
  have hW : Below w.heap.size w (w.alloc (Obj.cells #[.string key, .string nonce] 68)) := (Below.refl _ _).alloc (Nat.le_refl _) _
  go_enter Try.func37, Try.ntmps37
  go_wp2_with (first
    | (refine wpList_load_row rfl 68 _ rfl w.heap.size rfl 68 _ (0, 0) _ hB Try.underlying68 rfl (by kernel_rfl) ?_)
    | (go_at_call 86; refine (stream_any kk hk key nonce hkey hn f many hm _).mono ?_; rintro e w1 ⟨rfl, hk1⟩))
  go_ret
  exact ⟨rfl, Below.callee hW hk1⟩
end
end Go.Proofs.Ytieooonobjkglaa
namespace Go.Proofs.Ytieooonobjkglaa
open Go Go.Proofs Go.RowKit Go.Shelf SW
set_option maxRecDepth 20000
set_option maxHeartbeats 4000000
/-- The key of the sum. -/
def Sx.hkey (kk : Nat) (key : List UInt8) : List UInt8 := Sx.aes kk key (List.replicate 16 0)
def Sx.tag (kk : Nat) (key nonce head text : List UInt8) : List UInt8 := Sx.xorL (Sx.sum (Sx.hkey kk key) head text) (Sx.stream kk key nonce 1 16)
theorem Sx.sum_length (h a s : List UInt8) : (Sx.sum h a s).length = 16 := Sx.polyBlock_length _
theorem Sx.xorL_length (s m : List UInt8) : (Sx.xorL s m).length = s.length := by simp [Sx.xorL]
theorem Sx.tag_length (kk : Nat) (key nonce head text : List UInt8) : (Sx.tag kk key nonce head text).length = 16 := by rw [Sx.tag, Sx.xorL_length, Sx.sum_length]
/-- Some bytes 0. -/
theorem zeros_call (n : Nat) (hn : n ≤ 100000) (w : World) : Calls Try.prog 16 #[.string ⟨#[0]⟩, .int .i64 n] w fun e w' => e = .returned (.string ⟨(List.replicate n 0).toArray⟩) ∧ Below w.heap.size w w' := by
  have := Try.strings_Repeat ⟨#[0]⟩ n w (by omega) (by simp [ByteArray.size]; omega)
  rwa [show Lib.repeatL (⟨#[0]⟩ : ByteArray).data.toList n = List.replicate n 0 by
    show Lib.repeatL ([0] : List UInt8) n = _
    rw [show ([0] : List UInt8) = List.replicate 1 0 from rfl, Lib.repeatL_replicate, Nat.mul_one]] at this
theorem ba_len (l : List UInt8) : (⟨l.toArray⟩ : ByteArray).size = l.length := by simp [ByteArray.size]
/-- A fact of one cell, kept by what calls make. -/
theorem keepC {w W1 W2 : World} {a : Addr} {v : Value} (h : Below w.heap.size w W1 ∧ W1.cell? a = some v) (hk : Below W1.heap.size W1 W2) : Below w.heap.size w W2 ∧ W2.cell? a = some v :=
  ⟨Below.callee h.1 hk, (hk.cell (World.block_lt_of_cell? _ _ h.2)).trans h.2⟩
theorem tag_any (kk : Nat) (hk : kk = 4 ∨ kk = 8) (key nonce head text : ByteArray) (hkey : key.size = 4 * kk) (hn : nonce.size = 12) (hh : head.size ≤ 100000) (ht : text.size ≤ 100000) (w : World) :
    Calls Try.prog 36 #[.agg #[.string key, .string nonce], .string head, .string text] w fun e w' =>
      e = .returned (.string ⟨(Sx.tag kk key.data.toList nonce.data.toList head.data.toList text.data.toList).toArray⟩) ∧ Below w.heap.size w w' := by
  have HR : Hid (Sx.tag kk key.data.toList nonce.data.toList head.data.toList text.data.toList = Sx.xorL (Sx.sum (Sx.hkey kk key.data.toList) head.data.toList text.data.toList) (Sx.stream kk key.data.toList nonce.data.toList 1 16)) := by exact rfl
  have C0 : Hid (∀ w, Calls Try.prog 16 #[.string ⟨#[0]⟩, .int .i64 16] w fun e w' => e = .returned (.string ⟨(List.replicate 16 0).toArray⟩) ∧ Below w.heap.size w w') := by exact fun w => zeros_call 16 (by omega) w
  have C1 : Hid (∀ w, Calls Try.prog 17 #[.string key, .string ⟨(List.replicate 16 0).toArray⟩] w fun e w' => e = .returned (.tuple #[.string ⟨(Sx.hkey kk key.data.toList).toArray⟩, .int .i64 0]) ∧ Below w.heap.size w w') := by
    exact fun w => encrypt_any kk hk key ⟨(List.replicate 16 0).toArray⟩ hkey rfl w
  have C2 : Hid (∀ w, Calls Try.prog 85 #[.string ⟨(Sx.hkey kk key.data.toList).toArray⟩, .string head, .string text] w fun e w' => e = .returned (.tuple #[.string ⟨(Sx.sum (Sx.hkey kk key.data.toList) head.data.toList text.data.toList).toArray⟩, .int .i64 0]) ∧ Below w.heap.size w w') := by
    exact fun w => sum_any ⟨(Sx.hkey kk key.data.toList).toArray⟩ head text (by rw [ba_len]; exact Sx.aes_length _ _ _) hh ht w
  have C3 : Hid (∀ w, Calls Try.prog 37 #[.agg #[.string key, .string nonce], .int .u32 1, .int .i64 16] w fun e w' => e = .returned (.func (.func 87) #[.string ⟨(Sx.stream kk key.data.toList nonce.data.toList 1 16).toArray⟩] #[]) ∧ Below w.heap.size w w') := by
    exact fun w => mask_any kk hk key nonce hkey hn 1 16 (by omega) w
  have hsl : (Sx.sum (Sx.hkey kk key.data.toList) head.data.toList text.data.toList).length = 16 := Sx.sum_length _ _ _
  have hml : (Sx.stream kk key.data.toList nonce.data.toList 1 16).length = 16 := Sx.stream_length _ _ _ _ _
  generalize Sx.sum (Sx.hkey kk key.data.toList) head.data.toList text.data.toList = sm at C2 HR hsl
  generalize Sx.stream kk key.data.toList nonce.data.toList 1 16 = sk at C3 HR hml
  generalize Sx.hkey kk key.data.toList = hk' at C1 C2
  have C4 : Hid (∀ w, Calls Try.prog 87 #[.string ⟨sk.toArray⟩, .string ⟨sm.toArray⟩] w fun e w' => e = .returned (.string ⟨(Sx.xorL sm sk).toArray⟩) ∧ Below w.heap.size w w') := by
    exact fun w => text_any ⟨sk.toArray⟩ ⟨sm.toArray⟩ (by rw [ba_len, ba_len]; omega) (by rw [ba_len]; omega) w
  clear hsl hml hkey hn
  generalize (List.replicate 16 (0 : UInt8)) = zz at C0 C1
  have hB := Blk.new w #[.string key, .string nonce] 68
  have hW : Below w.heap.size w (w.alloc (Obj.cells #[.string key, .string nonce] 68)) := (Below.refl _ _).alloc (Nat.le_refl _) _
  go_enter Try.func36, Try.ntmps36
  go_wp2_with fail
  generalize w.alloc (Obj.cells #[.string key, .string nonce] 68) = W0 at hB hW ⊢
  have c1 : W0.cell? ⟨w.heap.size, 0, none⟩ = some (.string key) := hB.cell (k := 0) rfl
  have hA : Below W0.heap.size W0 W0.drew := (Below.refl _ _).drew
  go_region_held3 (fun W => Below w.heap.size w W ∧ W.cell? ⟨w.heap.size, 0, none⟩ = some (.string key))
    (first | assumption | exact ⟨hW.drew, c1⟩ | exact keepC (by assumption) hk1)
    (((first | (go_at_call 16; refine (C0.out _).mono ?_) | (go_at_call 17; refine (C1.out _).mono ?_)); rintro e w1 ⟨rfl, hk1⟩; replace hA := Below.callee hA hk1))
  have hB1 := hB.callee hA
  have hW1 := Below.callee hW hA
  go_wp2_with (first
    | (refine wpList_load_row rfl 68 _ rfl w.heap.size rfl 68 _ (0, 0) _ (hB1.callee hk2) Try.underlying68 rfl (by kernel_rfl) ?_)
    | (go_at_call 85; refine (C2.out _).mono ?_; rintro e w2 ⟨rfl, hk2⟩)
    | (go_at_call 37; refine (C3.out _).mono ?_; rintro e w3 ⟨rfl, hk3⟩)
    | (go_at_call 87; refine (C4.out _).mono ?_; rintro e w4 ⟨rfl, hk4⟩))
  go_ret
  rw [HR.out]
  exact ⟨rfl, Below.callee (Below.callee (Below.callee hW1 hk2) hk3) hk4⟩
end Go.Proofs.Ytieooonobjkglaa
namespace Go.Proofs.Ytieooonobjkglaa
open Go Go.Proofs Go.RowKit Go.Shelf SW
set_option maxRecDepth 20000
set_option maxHeartbeats 4000000
def Sx.sealOf (kk : Nat) (key nonce head text : List UInt8) : List UInt8 :=
  Sx.xorL text (Sx.stream kk key nonce 2 text.length) ++ Sx.tag kk key nonce head (Sx.xorL text (Sx.stream kk key nonce 2 text.length))
theorem Sx.sealOf_length (kk : Nat) (key nonce head text : List UInt8) : (Sx.sealOf kk key nonce head text).length = text.length + 16 := by
  rw [Sx.sealOf, List.length_append, Sx.xorL_length, Sx.tag_length]
theorem seal_any (kk : Nat) (hk : kk = 4 ∨ kk = 8) (key nonce head text : ByteArray) (hkey : key.size = 4 * kk) (hn : nonce.size = 12) (hh : head.size ≤ 4096) (ht : text.size ≤ 4096) (w : World) :
    Calls Try.prog 15 #[.string key, .string nonce, .string head, .string text] w fun e w' =>
      e = .returned (.tuple #[.string ⟨(Sx.sealOf kk key.data.toList nonce.data.toList head.data.toList text.data.toList).toArray⟩, .int .i64 0]) ∧ Below w.heap.size w w' := by
  have htl : text.data.toList.length = text.size := by simp
  have HR : Hid (Sx.sealOf kk key.data.toList nonce.data.toList head.data.toList text.data.toList = Sx.xorL text.data.toList (Sx.stream kk key.data.toList nonce.data.toList 2 text.size) ++ Sx.tag kk key.data.toList nonce.data.toList head.data.toList (Sx.xorL text.data.toList (Sx.stream kk key.data.toList nonce.data.toList 2 text.size))) := by
    unfold Sx.sealOf; rw [htl]; exact rfl
  have C0 : Hid (∀ w, Calls Try.prog 35 #[.agg #[.string key, .string nonce]] w fun e w' => e = .returned (.bool true) ∧ Below w.heap.size w w') := by exact right_yes key nonce kk hk hkey hn
  have C1 : Hid (∀ w, Calls Try.prog 37 #[.agg #[.string key, .string nonce], .int .u32 2, .int .i64 (text.size : Int)] w fun e w' => e = .returned (.func (.func 87) #[.string ⟨(Sx.stream kk key.data.toList nonce.data.toList 2 text.size).toArray⟩] #[]) ∧ Below w.heap.size w w') := by
    exact fun w => mask_any kk hk key nonce hkey hn 2 text.size (by omega) w
  have hml := Sx.stream_length kk key.data.toList nonce.data.toList 2 text.size
  generalize Sx.stream kk key.data.toList nonce.data.toList 2 text.size = sk at C1 HR hml
  have C2 : Hid (∀ w, Calls Try.prog 87 #[.string ⟨sk.toArray⟩, .string text] w fun e w' => e = .returned (.string ⟨(Sx.xorL text.data.toList sk).toArray⟩) ∧ Below w.heap.size w w') := by
    exact fun w => text_any ⟨sk.toArray⟩ text (by rw [ba_len sk]; omega) (by omega) w
  have hxl := Sx.xorL_length text.data.toList sk
  rw [htl] at hxl
  generalize Sx.xorL text.data.toList sk = xt at C2 HR hxl
  have C3 : Hid (∀ w, Calls Try.prog 36 #[.agg #[.string key, .string nonce], .string head, .string ⟨xt.toArray⟩] w fun e w' => e = .returned (.string ⟨(Sx.tag kk key.data.toList nonce.data.toList head.data.toList xt).toArray⟩) ∧ Below w.heap.size w w') := by
    exact fun w => tag_any kk hk key nonce head ⟨xt.toArray⟩ hkey hn (by omega) (by rw [ba_len]; omega) w
  have htg := Sx.tag_length kk key.data.toList nonce.data.toList head.data.toList xt
  generalize Sx.tag kk key.data.toList nonce.data.toList head.data.toList xt = tg at C3 HR htg
  have b1 : (⟨xt.toArray⟩ : ByteArray).size ≤ 4096 := by rw [ba_len]; omega
  have b2 : (⟨tg.toArray⟩ : ByteArray).size ≤ 16 := by rw [ba_len]; omega
  clear htl hml hxl htg hkey hn
  have hB := Blk.new w #[.string key, .string nonce] 68
  have hW : Below w.heap.size w (w.alloc (Obj.cells #[.string key, .string nonce] 68)) := (Below.refl _ _).alloc (Nat.le_refl _) _
  go_enter Try.func15, Try.ntmps15
  go_wp2_with (first
    | (refine wpList_load_row rfl 68 (.tmp 10) rfl w.heap.size rfl 68 #[.string key, .string nonce] (0, 0) _ (by first | exact hB | exact hB.callee hk1 | exact ((hB.callee hk1).callee hk2).callee hk3) Try.underlying68 rfl (by kernel_rfl) ?_)
    | (go_at_call 35; refine (C0.out _).mono ?_; rintro e w1 ⟨rfl, hk1⟩)
    | (go_at_call 37; refine (C1.out _).mono ?_; rintro e w2 ⟨rfl, hk2⟩)
    | (go_at_call 87; refine (C2.out _).mono ?_; rintro e w3 ⟨rfl, hk3⟩)
    | (go_at_call 36; refine (C3.out _).mono ?_; rintro e w4 ⟨rfl, hk4⟩))
  go_ret2
  rw [HR.out, str_add]
  exact ⟨rfl, Below.callee (Below.callee (Below.callee (Below.callee hW hk1) hk2) hk3) hk4⟩
theorem seal_bad (key nonce head text : ByteArray) (h : ¬ (((key.size = 16 ∨ key.size = 32) ∧ nonce.size = 12) ∧ head.size ≤ 4096 ∧ text.size ≤ 4096)) (w : World) :
    Calls Try.prog 15 #[.string key, .string nonce, .string head, .string text] w fun e w' => e = .returned (.tuple #[.string ⟨#[]⟩, .int .i64 4]) ∧ Below w.heap.size w w' := by
  have hB := Blk.new w #[.string key, .string nonce] 68
  have hW : Below w.heap.size w (w.alloc (Obj.cells #[.string key, .string nonce] 68)) := (Below.refl _ _).alloc (Nat.le_refl _) _
  by_cases hr : (key.size = 16 ∨ key.size = 32) ∧ nonce.size = 12
  · have C0 : Hid (∀ w, Calls Try.prog 35 #[.agg #[.string key, .string nonce]] w fun e w' => e = .returned (.bool true) ∧ Below w.heap.size w w') := by
      exact right_yes key nonce (if key.size = 16 then 4 else 8) (by split <;> simp) (by split <;> omega) hr.2
    by_cases hh : head.size ≤ 4096
    · have h2 : ¬ text.size ≤ 4096 := fun e => h ⟨hr, hh, e⟩
      have d1 : decide ((head.size : Int) > 4096) = false := by simp; omega
      have d2 : decide ((text.size : Int) > 4096) = true := by simp; omega
      clear h h2 hh hr
      go_enter Try.func15, Try.ntmps15
      go_wp2_with (first
        | (refine wpList_load_row rfl 68 (.tmp 10) rfl w.heap.size rfl 68 #[.string key, .string nonce] (0, 0) _ hB Try.underlying68 rfl (by kernel_rfl) ?_)
        | (go_at_call 35; refine (C0.out _).mono ?_; rintro e w1 ⟨rfl, hk1⟩))
      go_ret2
      exact ⟨rfl, Below.callee hW hk1⟩
    · have d1 : decide ((head.size : Int) > 4096) = true := by simp; omega
      clear h hh hr
      go_enter Try.func15, Try.ntmps15
      go_wp2_with (first
        | (refine wpList_load_row rfl 68 (.tmp 10) rfl w.heap.size rfl 68 #[.string key, .string nonce] (0, 0) _ hB Try.underlying68 rfl (by kernel_rfl) ?_)
        | (go_at_call 35; refine (C0.out _).mono ?_; rintro e w1 ⟨rfl, hk1⟩))
      go_ret2
      exact ⟨rfl, Below.callee hW hk1⟩
  · have C0 : Hid (∀ w, Calls Try.prog 35 #[.agg #[.string key, .string nonce]] w fun e w' => e = .returned (.bool false) ∧ Below w.heap.size w w') := by
      exact right_no key nonce hr
    clear h hr
    go_enter Try.func15, Try.ntmps15
    go_wp2_with (first
      | (refine wpList_load_row rfl 68 (.tmp 10) rfl w.heap.size rfl 68 #[.string key, .string nonce] (0, 0) _ hB Try.underlying68 rfl (by kernel_rfl) ?_)
      | (go_at_call 35; refine (C0.out _).mono ?_; rintro e w1 ⟨rfl, hk1⟩))
    go_ret2
    exact ⟨rfl, Below.callee hW hk1⟩
end Go.Proofs.Ytieooonobjkglaa
namespace Go.Proofs.Ytieooonobjkglaa
open Go Go.Proofs Go.RowKit Go.Shelf SW
set_option maxRecDepth 20000
set_option maxHeartbeats 4000000
theorem keepP {w W1 W2 : World} {a b : Addr} {v u : Value} (h : Below w.heap.size w W1 ∧ W1.cell? a = some v ∧ W1.cell? b = some u) (hk : Below W1.heap.size W1 W2) : Below w.heap.size w W2 ∧ W2.cell? a = some v ∧ W2.cell? b = some u :=
  ⟨Below.callee h.1 hk, (hk.cell (World.block_lt_of_cell? _ _ h.2.1)).trans h.2.1, (hk.cell (World.block_lt_of_cell? _ _ h.2.2)).trans h.2.2⟩
theorem open_ok (kk : Nat) (hk : kk = 4 ∨ kk = 8) (key nonce head sealed : ByteArray) (n : Nat) (hkey : key.size = 4 * kk) (hn : nonce.size = 12) (hh : head.size ≤ 4096) (hs : sealed.size = n + 16) (hn4 : n ≤ 4096)
    (w : World) (ht : Sx.tag kk key.data.toList nonce.data.toList head.data.toList (sealed.data.toList.take n) = sealed.data.toList.drop n) :
    Calls Try.prog 11 #[.string key, .string nonce, .string head, .string sealed] w fun e w' =>
      e = .returned (.tuple #[.string ⟨(Sx.xorL (sealed.data.toList.take n) (Sx.stream kk key.data.toList nonce.data.toList 2 n)).toArray⟩, .int .i64 0]) ∧ Below w.heap.size w w' := by
  have C0 : Hid (∀ w, Calls Try.prog 35 #[.agg #[.string key, .string nonce]] w fun e w' => e = .returned (.bool true) ∧ Below w.heap.size w w') := by exact right_yes key nonce kk hk hkey hn
  have C1 : Hid (∀ w, Calls Try.prog 37 #[.agg #[.string key, .string nonce], .int .u32 2, .int .i64 (n : Int)] w fun e w' => e = .returned (.func (.func 87) #[.string ⟨(Sx.stream kk key.data.toList nonce.data.toList 2 n).toArray⟩] #[]) ∧ Below w.heap.size w w') := by
    exact fun w => mask_any kk hk key nonce hkey hn 2 n (by omega) w
  have hml := Sx.stream_length kk key.data.toList nonce.data.toList 2 n
  generalize Sx.stream kk key.data.toList nonce.data.toList 2 n = sk at C1 hml ⊢
  have hbl : (sealed.extract 0 n).data.toList = sealed.data.toList.take n := ext_upto _ _
  have hel : (sealed.extract n sealed.size).data.toList = sealed.data.toList.drop n := ext_end _ _
  have hbs : (sealed.extract 0 n).size = n := by simp; omega
  have hsl1 : ∀ W, (Instr.slice 9 (.string sealed) none (some (.int .i64 (n : Int))) none).run Try.prog W = .ok (.string (sealed.extract 0 n)) W := fun W => by
    rw [run_slice_string_h (ht := Try.underlying9) (h0 := by omega) (h2 := by omega)]
    rfl
  have hsl2 : ∀ W, (Instr.slice 9 (.string sealed) (some (.int .i64 (n : Int))) none none).run Try.prog W = .ok (.string (sealed.extract n sealed.size)) W := fun W => by
    rw [run_slice_string_l (ht := Try.underlying9) (h0 := by omega) (h1 := by omega)]
    rfl
  rw [← hbl, ← hel] at ht
  have HR : Hid (Sx.xorL (sealed.data.toList.take n) sk = Sx.xorL (sealed.extract 0 n).data.toList sk) := by rw [hbl]; exact rfl
  generalize sealed.extract 0 n = body at hsl1 ht HR hbs
  generalize sealed.extract n sealed.size = tail at hsl2 ht
  have C2 : Hid (∀ w, Calls Try.prog 87 #[.string ⟨sk.toArray⟩, .string body] w fun e w' => e = .returned (.string ⟨(Sx.xorL body.data.toList sk).toArray⟩) ∧ Below w.heap.size w w') := by
    exact fun w => text_any ⟨sk.toArray⟩ body (by rw [ba_len sk]; omega) (by omega) w
  have C3 : Hid (∀ w, Calls Try.prog 36 #[.agg #[.string key, .string nonce], .string head, .string body] w fun e w' => e = .returned (.string tail) ∧ Below w.heap.size w w') := by
    refine show ∀ w, _ from fun w => ?_
    have := tag_any kk hk key nonce head body hkey hn (by omega) (by omega) w
    rwa [ht] at this
  have dw : IntKind.i64.wrap ((sealed.size : Int) - 16) = (n : Int) := by rw [IntWalk.i64_in _ (by omega)]; omega
  have dw2 : (sealed.size : Int) - 16 = (n : Int) := by omega
  have d1 : decide ((head.size : Int) > 4096) = false := by simp; omega
  have d2 : decide ((n : Int) < 0) = false := by simp
  have d3 : decide ((n : Int) > 4096) = false := by simp; omega
  clear hbl hel hbs hml hkey hn ht hs
  have hB := Blk.new w #[.string key, .string nonce] 68
  have hW : Below w.heap.size w (w.alloc (Obj.cells #[.string key, .string nonce] 68)) := (Below.refl _ _).alloc (Nat.le_refl _) _
  go_enter Try.func11, Try.ntmps11
  go_wp2_with (first
    | (refine wpList_load_row rfl 68 (.tmp 10) rfl w.heap.size rfl 68 #[.string key, .string nonce] (0, 0) _ hB Try.underlying68 rfl (by kernel_rfl) ?_)
    | (go_at_call 35; refine (C0.out _).mono ?_; rintro e w1 ⟨rfl, hk1⟩))
  have hB1 := hB.callee hk1
  have hW1 := Below.callee hW hk1
  have c1 : w1.cell? ⟨w.heap.size, 0, none⟩ = some (.string key) := hB1.cell (k := 0) rfl
  have c2 : w1.cell? ⟨w.heap.size, 1, none⟩ = some (.string nonce) := hB1.cell (k := 1) rfl
  have hA : Below w1.heap.size w1 w1.drew := (Below.refl _ _).drew
  clear hk1 hW hB
  go_region_held3 (fun W => Below w.heap.size w W ∧ W.cell? ⟨w.heap.size, 0, none⟩ = some (.string key) ∧ W.cell? ⟨w.heap.size, 1, none⟩ = some (.string nonce))
    (first | assumption | exact ⟨hW1.drew, c1, c2⟩ | exact keepP (by assumption) hk2)
    ((go_at_call 36; refine (C3.out _).mono ?_; rintro e w2 ⟨rfl, hk2⟩; replace hA := Below.callee hA hk2))
  have hS2 : Below w.heap.size w w2 ∧ w2.cell? ⟨w.heap.size, 0, none⟩ = some (.string key) ∧ w2.cell? ⟨w.heap.size, 1, none⟩ = some (.string nonce) := by assumption
  clear hk2 hA c1 c2 hW1 hB1
  obtain ⟨hW2, c1, c2⟩ := hS2
  have hA : Below w2.heap.size w2 w2.drew := (Below.refl _ _).drew
  go_wp2_with fail
  go_region_held3 (fun W => Below w.heap.size w W ∧ W.cell? ⟨w.heap.size, 0, none⟩ = some (.string key) ∧ W.cell? ⟨w.heap.size, 1, none⟩ = some (.string nonce))
    (first | assumption | exact ⟨hW2.drew, c1, c2⟩ | exact keepP (by assumption) hk2)
    (((first | (go_at_call 37; refine (C1.out _).mono ?_) | (go_at_call 87; refine (C2.out _).mono ?_)); rintro e w3 ⟨rfl, hk2⟩; replace hA := Below.callee hA hk2))
  go_wp2_with fail
  go_ret2
  rw [HR.out]
  exact ⟨rfl, Below.callee hW2 hA⟩
theorem open_auth (kk : Nat) (hk : kk = 4 ∨ kk = 8) (key nonce head sealed : ByteArray) (n : Nat) (hkey : key.size = 4 * kk) (hn : nonce.size = 12) (hh : head.size ≤ 4096) (hs : sealed.size = n + 16) (hn4 : n ≤ 4096)
    (w : World) (ht : Sx.tag kk key.data.toList nonce.data.toList head.data.toList (sealed.data.toList.take n) ≠ sealed.data.toList.drop n) :
    Calls Try.prog 11 #[.string key, .string nonce, .string head, .string sealed] w fun e w' =>
      e = .returned (.tuple #[.string ⟨#[]⟩, .int .i64 5]) ∧ Below w.heap.size w w' := by
  have C0 : Hid (∀ w, Calls Try.prog 35 #[.agg #[.string key, .string nonce]] w fun e w' => e = .returned (.bool true) ∧ Below w.heap.size w w') := by exact right_yes key nonce kk hk hkey hn
  have hbl : (sealed.extract 0 n).data.toList = sealed.data.toList.take n := ext_upto _ _
  have hel : (sealed.extract n sealed.size).data.toList = sealed.data.toList.drop n := ext_end _ _
  have hbs : (sealed.extract 0 n).size = n := by simp; omega
  have hsl1 : ∀ W, (Instr.slice 9 (.string sealed) none (some (.int .i64 (n : Int))) none).run Try.prog W = .ok (.string (sealed.extract 0 n)) W := fun W => by
    rw [run_slice_string_h (ht := Try.underlying9) (h0 := by omega) (h2 := by omega)]
    rfl
  have hsl2 : ∀ W, (Instr.slice 9 (.string sealed) (some (.int .i64 (n : Int))) none none).run Try.prog W = .ok (.string (sealed.extract n sealed.size)) W := fun W => by
    rw [run_slice_string_l (ht := Try.underlying9) (h0 := by omega) (h1 := by omega)]
    rfl
  rw [← hbl, ← hel] at ht
  generalize sealed.extract 0 n = body at hsl1 ht hbs
  generalize sealed.extract n sealed.size = tail at hsl2 ht
  have C3 : Hid (∀ w, Calls Try.prog 36 #[.agg #[.string key, .string nonce], .string head, .string body] w fun e w' => e = .returned (.string ⟨(Sx.tag kk key.data.toList nonce.data.toList head.data.toList body.data.toList).toArray⟩) ∧ Below w.heap.size w w') := by
    exact fun w => tag_any kk hk key nonce head body hkey hn (by omega) (by omega) w
  generalize Sx.tag kk key.data.toList nonce.data.toList head.data.toList body.data.toList = tg at C3 ht
  have hne : (tg == tail.toList) = false := by
    rw [beq_eq_false_iff_ne, ByteArray.toList_eq]; exact ht
  have dw : IntKind.i64.wrap ((sealed.size : Int) - 16) = (n : Int) := by rw [IntWalk.i64_in _ (by omega)]; omega
  have dw2 : (sealed.size : Int) - 16 = (n : Int) := by omega
  have d1 : decide ((head.size : Int) > 4096) = false := by simp; omega
  have d2 : decide ((n : Int) < 0) = false := by simp
  have d3 : decide ((n : Int) > 4096) = false := by simp; omega
  clear hbl hel hbs hkey hn ht hs
  have hB := Blk.new w #[.string key, .string nonce] 68
  have hW : Below w.heap.size w (w.alloc (Obj.cells #[.string key, .string nonce] 68)) := (Below.refl _ _).alloc (Nat.le_refl _) _
  go_enter Try.func11, Try.ntmps11
  go_wp2_with (first
    | (refine wpList_load_row rfl 68 (.tmp 10) rfl w.heap.size rfl 68 #[.string key, .string nonce] (0, 0) _ hB Try.underlying68 rfl (by kernel_rfl) ?_)
    | (go_at_call 35; refine (C0.out _).mono ?_; rintro e w1 ⟨rfl, hk1⟩))
  have hB1 := hB.callee hk1
  have hW1 := Below.callee hW hk1
  have c1 : w1.cell? ⟨w.heap.size, 0, none⟩ = some (.string key) := hB1.cell (k := 0) rfl
  have c2 : w1.cell? ⟨w.heap.size, 1, none⟩ = some (.string nonce) := hB1.cell (k := 1) rfl
  have hA : Below w1.heap.size w1 w1.drew := (Below.refl _ _).drew
  clear hk1 hW hB
  go_region_held3 (fun W => Below w.heap.size w W ∧ W.cell? ⟨w.heap.size, 0, none⟩ = some (.string key) ∧ W.cell? ⟨w.heap.size, 1, none⟩ = some (.string nonce))
    (first | assumption | exact ⟨hW1.drew, c1, c2⟩ | exact keepP (by assumption) hk2)
    ((go_at_call 36; refine (C3.out _).mono ?_; rintro e w2 ⟨rfl, hk2⟩; replace hA := Below.callee hA hk2))
  have hS2 : Below w.heap.size w w2 ∧ w2.cell? ⟨w.heap.size, 0, none⟩ = some (.string key) ∧ w2.cell? ⟨w.heap.size, 1, none⟩ = some (.string nonce) := by assumption
  go_wp2_with fail
  go_ret2
  exact ⟨rfl, hS2.1⟩
theorem open_bad (key nonce head sealed : ByteArray) (hz : sealed.size ≤ 9223372036854775807) (h : ¬ (((key.size = 16 ∨ key.size = 32) ∧ nonce.size = 12) ∧ head.size ≤ 4096 ∧ 16 ≤ sealed.size ∧ sealed.size ≤ 4112)) (w : World) :
    Calls Try.prog 11 #[.string key, .string nonce, .string head, .string sealed] w fun e w' => e = .returned (.tuple #[.string ⟨#[]⟩, .int .i64 4]) ∧ Below w.heap.size w w' := by
  have hB := Blk.new w #[.string key, .string nonce] 68
  have hW : Below w.heap.size w (w.alloc (Obj.cells #[.string key, .string nonce] 68)) := (Below.refl _ _).alloc (Nat.le_refl _) _
  have dw : IntKind.i64.wrap ((sealed.size : Int) - 16) = (sealed.size : Int) - 16 := IntWalk.i64_in _ (by omega)
  by_cases hr : (key.size = 16 ∨ key.size = 32) ∧ nonce.size = 12
  · have C0 : Hid (∀ w, Calls Try.prog 35 #[.agg #[.string key, .string nonce]] w fun e w' => e = .returned (.bool true) ∧ Below w.heap.size w w') := by
      exact right_yes key nonce (if key.size = 16 then 4 else 8) (by split <;> simp) (by split <;> omega) hr.2
    by_cases hh : head.size ≤ 4096
    · have d1 : decide ((head.size : Int) > 4096) = false := by simp; omega
      by_cases h16 : 16 ≤ sealed.size
      · have d2 : decide ((sealed.size : Int) - 16 < 0) = false := by simp; omega
        have d3 : decide ((sealed.size : Int) - 16 > 4096) = true := by
          have h4 : ¬ sealed.size ≤ 4112 := fun e => h ⟨hr, hh, h16, e⟩
          simp; omega
        clear h hh hr h16
        go_enter Try.func11, Try.ntmps11
        go_wp2_with (first
          | (refine wpList_load_row rfl 68 (.tmp 10) rfl w.heap.size rfl 68 #[.string key, .string nonce] (0, 0) _ hB Try.underlying68 rfl (by kernel_rfl) ?_)
          | (go_at_call 35; refine (C0.out _).mono ?_; rintro e w1 ⟨rfl, hk1⟩))
        go_ret2
        exact ⟨rfl, Below.callee hW hk1⟩
      · have d2 : decide ((sealed.size : Int) - 16 < 0) = true := by simp; omega
        clear h hh hr h16
        go_enter Try.func11, Try.ntmps11
        go_wp2_with (first
          | (refine wpList_load_row rfl 68 (.tmp 10) rfl w.heap.size rfl 68 #[.string key, .string nonce] (0, 0) _ hB Try.underlying68 rfl (by kernel_rfl) ?_)
          | (go_at_call 35; refine (C0.out _).mono ?_; rintro e w1 ⟨rfl, hk1⟩))
        go_ret2
        exact ⟨rfl, Below.callee hW hk1⟩
    · have d1 : decide ((head.size : Int) > 4096) = true := by simp; omega
      clear h hh hr
      go_enter Try.func11, Try.ntmps11
      go_wp2_with (first
        | (refine wpList_load_row rfl 68 (.tmp 10) rfl w.heap.size rfl 68 #[.string key, .string nonce] (0, 0) _ hB Try.underlying68 rfl (by kernel_rfl) ?_)
        | (go_at_call 35; refine (C0.out _).mono ?_; rintro e w1 ⟨rfl, hk1⟩))
      go_ret2
      exact ⟨rfl, Below.callee hW hk1⟩
  · have C0 : Hid (∀ w, Calls Try.prog 35 #[.agg #[.string key, .string nonce]] w fun e w' => e = .returned (.bool false) ∧ Below w.heap.size w w') := by
      exact right_no key nonce hr
    clear h hr
    go_enter Try.func11, Try.ntmps11
    go_wp2_with (first
      | (refine wpList_load_row rfl 68 (.tmp 10) rfl w.heap.size rfl 68 #[.string key, .string nonce] (0, 0) _ hB Try.underlying68 rfl (by kernel_rfl) ?_)
      | (go_at_call 35; refine (C0.out _).mono ?_; rintro e w1 ⟨rfl, hk1⟩))
    go_ret2
    exact ⟨rfl, Below.callee hW hk1⟩
end Go.Proofs.Ytieooonobjkglaa
namespace Go.Proofs.Ytieooonobjkglaa
open Go Go.Proofs Go.RowKit Go.Shelf SW
set_option maxRecDepth 100000
set_option maxHeartbeats 4000000
theorem alive_seal : Sx.sealOf 4 (List.replicate 16 0) (List.replicate 12 0) [] [] = [0x58, 0xe2, 0xfc, 0xce, 0xfa, 0x7e, 0x30, 0x61, 0x36, 0x7f, 0x1d, 0x57, 0xa4, 0xe7, 0x45, 0x5a] := by decide +kernel
theorem alive8_any (w : World) : Calls Try.prog 13 #[] w fun e w' => e = .returned (.bool true) ∧ Below w.heap.size w w' := by
  have C0 : Hid (∀ w, Calls Try.prog 16 #[.string ⟨#[0]⟩, .int .i64 16] w fun e w' => e = .returned (.string ⟨(List.replicate 16 0).toArray⟩) ∧ Below w.heap.size w w') := by exact fun w => zeros_call 16 (by omega) w
  have C1 : Hid (∀ w, Calls Try.prog 16 #[.string ⟨#[0]⟩, .int .i64 12] w fun e w' => e = .returned (.string ⟨(List.replicate 12 0).toArray⟩) ∧ Below w.heap.size w w') := by exact fun w => zeros_call 12 (by omega) w
  have C2 : Hid (∀ w, Calls Try.prog 15 #[.string ⟨(List.replicate 16 0).toArray⟩, .string ⟨(List.replicate 12 0).toArray⟩, .string ⟨#[]⟩, .string ⟨#[]⟩] w fun e w' =>
      e = .returned (.tuple #[.string ⟨#[0x58, 0xe2, 0xfc, 0xce, 0xfa, 0x7e, 0x30, 0x61, 0x36, 0x7f, 0x1d, 0x57, 0xa4, 0xe7, 0x45, 0x5a]⟩, .int .i64 0]) ∧ Below w.heap.size w w') := by
    refine show ∀ w, _ from fun w => ?_
    have := seal_any 4 (.inl rfl) ⟨(List.replicate 16 0).toArray⟩ ⟨(List.replicate 12 0).toArray⟩ ⟨#[]⟩ ⟨#[]⟩ rfl rfl (Nat.zero_le _) (Nat.zero_le _) w
    rw [show (⟨(List.replicate 16 0).toArray⟩ : ByteArray).data.toList = List.replicate 16 0 from rfl, show (⟨(List.replicate 12 0).toArray⟩ : ByteArray).data.toList = List.replicate 12 0 from rfl,
      show (⟨#[]⟩ : ByteArray).data.toList = [] from rfl, alive_seal] at this
    exact this
  generalize (List.replicate 16 (0 : UInt8)).toArray = z16 at C0 C2
  generalize (List.replicate 12 (0 : UInt8)).toArray = z12 at C1 C2
  go_enter Try.func13, Try.ntmps13
  go_wp2_with (first
    | (go_at_call 16; ((with_reducible refine (C0.out _).mono ?_); rintro e w1 ⟨rfl, hk1⟩))
    | (go_at_call 16; ((with_reducible refine (C1.out _).mono ?_); rintro e w2 ⟨rfl, hk2⟩))
    | (go_at_call 15; refine (C2.out _).mono ?_; rintro e w3 ⟨rfl, hk3⟩))
  go_ret
  exact ⟨rfl, Below.callee (Below.callee hk1 hk2) hk3⟩
/-- A text's first 70 bytes. -/
def cut70 (s : ByteArray) : ByteArray := s.extract 0 (min s.size 70)
theorem cut70_size (s : ByteArray) : (cut70 s).size ≤ 70 := by simp [cut70]; omega
theorem cut_any (s : ByteArray) (hs : s.size ≤ maxLen) (w : World) : Calls Try.prog 10 #[.string s] w fun e w' => e = .returned (.string (cut70 s)) ∧ w = w' := by
  unfold maxLen at hs
  have hm : min (s.size : Int) 70 = ((min s.size 70 : Nat) : Int) := by omega
  have hsl : ∀ W, (Instr.slice 9 (.string s) none (some (.int .i64 ((min s.size 70 : Nat) : Int))) none).run Try.prog W = .ok (.string (cut70 s)) W := fun W => by
    rw [run_slice_string_h (ht := Try.underlying9) (h0 := by omega) (h2 := by omega)]
    rfl
  go_enter Try.func10, Try.ntmps10
  go_wp2
  go_ret
  exact ⟨rfl, rfl⟩
end Go.Proofs.Ytieooonobjkglaa
