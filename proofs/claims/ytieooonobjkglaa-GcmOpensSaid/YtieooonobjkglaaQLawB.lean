/- The walk of law GcmBack. -/
import Derived.Test.YtieooonobjkglaaQGcm
import Derived.Test.YtieooonobjkglaaQPlain
import Derived.Deep.QuietTactic
import Derived.BigQuiet
namespace Go.Proofs.Ytieooonobjkglaa
open Go Go.Proofs Go.RowKit Go.Shelf SW
set_option maxRecDepth 100000
set_option maxHeartbeats 4000000
theorem below_dn (w : World) (n : Nat) : Below w.heap.size w (w.drewN n) := by
  induction n with
  | zero => exact Below.refl _ _
  | succ n ih => rw [← World.drew_drewN]; exact ih.drew
theorem back_bad (a0 a1 a2 a3 a4 : ByteArray) (a5 : Int) (w0 : a0.size ≤ maxLen) (w1 : a1.size ≤ maxLen) (w2 : a2.size ≤ maxLen) (w3 : a3.size ≤ maxLen) (w4 : a4.size ≤ maxLen)
    (h : ¬ (((cut70 a0).size = 16 ∨ (cut70 a0).size = 32) ∧ (cut70 a1).size = 12)) (w : World) :
    Calls Try.prog 4 #[.string a0, .string a1, .string a2, .string a3, .string a4, .int .i64 a5] w fun e w' => e = .returned (.bool true) ∧ Below w.heap.size w w' := by
  have C0 : Hid (∀ w, Calls Try.prog 15 #[.string (cut70 a0), .string (cut70 a1), .string (cut70 a2), .string (cut70 a3)] w fun e w' => e = .returned (.tuple #[.string ⟨#[]⟩, .int .i64 4]) ∧ Below w.heap.size w w') := by
    exact fun w => seal_bad _ _ _ _ (fun x => h x.1) w
  have hm : min (a4.size : Int) 90 = ((min a4.size 90 : Nat) : Int) := by omega
  have h4 := w4
  unfold maxLen at h4
  have hsl : ∀ W, (Instr.slice 9 (.string a4) none (some (.int .i64 ((min a4.size 90 : Nat) : Int))) none).run Try.prog W = .ok (.string (a4.extract 0 (min a4.size 90))) W := fun W => by
    rw [run_slice_string_h (ht := Try.underlying9) (h0 := by omega) (h2 := by omega)]
    rfl
  have hne : ((⟨#[]⟩ : ByteArray).toList == (⟨#[]⟩ : ByteArray).toList) = true := by simp
  clear h
  generalize hn : min a4.size 90 = n at *
  have HN := Lib.hid hn
  clear hn
  go_enter Try.func4, Try.ntmps4
  go_wp2_with fail
  go_quiet ((go_at_call 10; exact Calls.quiet_of_same ((cut_any _ (by assumption) _).mono fun _ _ h => ⟨h.1, h.2.symm⟩)))
  go_wp2_with (first
    | (go_at_call 15; refine (C0.out _).mono ?_; rintro e w1 ⟨rfl, hk1⟩)
    | (go_at_call 13; refine (alive8_any _).mono ?_; rintro e w2 ⟨rfl, hk2⟩))
  go_ret
  exact ⟨rfl, Below.callee (Below.callee (below_dn _ _) hk1) hk2⟩
theorem bit_byte : ∀ r, r < 8 → IntKind.u8.wrap (2 ^ r) = U8 (UInt8.ofNat (2 ^ r)) ∧ UInt8.ofNat (2 ^ r) ≠ 0 := by decide
/-- What is opened is sealed to what was; what is not has no text. -/
theorem open_seal (kk : Nat) (hk : kk = 4 ∨ kk = 8) (key nonce head s : ByteArray) (hkey : key.size = 4 * kk) (hn : nonce.size = 12) (hh : head.size ≤ 4096) (hs : s.size ≤ 4112) :
    (∃ c : Int, c ≠ 0 ∧ ∀ w, Calls Try.prog 11 #[.string key, .string nonce, .string head, .string s] w fun e w' => e = .returned (.tuple #[.string ⟨#[]⟩, .int .i64 c]) ∧ Below w.heap.size w w') ∨
    (∃ u : ByteArray, (∀ w, Calls Try.prog 11 #[.string key, .string nonce, .string head, .string s] w fun e w' => e = .returned (.tuple #[.string u, .int .i64 0]) ∧ Below w.heap.size w w') ∧
      ∀ w, Calls Try.prog 15 #[.string key, .string nonce, .string head, .string u] w fun e w' => e = .returned (.tuple #[.string s, .int .i64 0]) ∧ Below w.heap.size w w') := by
  by_cases h16 : 16 ≤ s.size
  · obtain ⟨n, hn16⟩ : ∃ n, s.size = n + 16 := ⟨s.size - 16, by omega⟩
    have hl : s.data.toList.length = n + 16 := by simpa using hn16
    by_cases ht : Sx.tag kk key.data.toList nonce.data.toList head.data.toList (s.data.toList.take n) = s.data.toList.drop n
    · right
      have htl : (s.data.toList.take n).length = n := by rw [List.length_take]; omega
      refine ⟨_, fun w => open_ok kk hk key nonce head s n hkey hn hh hn16 (by omega) w ht, fun w => ?_⟩
      have := seal_any kk hk key nonce head ⟨(Sx.xorL (s.data.toList.take n) (Sx.stream kk key.data.toList nonce.data.toList 2 n)).toArray⟩ hkey hn hh (by rw [ba_len, Sx.xorL_length, htl]; omega) w
      have e : Sx.sealOf kk key.data.toList nonce.data.toList head.data.toList (⟨(Sx.xorL (s.data.toList.take n) (Sx.stream kk key.data.toList nonce.data.toList 2 n)).toArray⟩ : ByteArray).data.toList = s.data.toList := by
        show Sx.sealOf kk key.data.toList nonce.data.toList head.data.toList (Sx.xorL (s.data.toList.take n) (Sx.stream kk key.data.toList nonce.data.toList 2 n)) = s.data.toList
        unfold Sx.sealOf
        rw [Sx.xorL_length, htl, Sx.xorL_back, ht, List.take_append_drop]
      rw [e] at this
      exact this
    · left
      exact ⟨5, by omega, fun w => open_auth kk hk key nonce head s n hkey hn hh hn16 (by omega) w ht⟩
  · left
    exact ⟨4, by omega, fun w => open_bad key nonce head s (by omega) (by omega) w⟩
section
attribute [local go_sem] U8_xor
theorem back_ok (kk : Nat) (hk : kk = 4 ∨ kk = 8) (a0 a1 a2 a3 a4 : ByteArray) (a5 : Int) (w0 : a0.size ≤ maxLen) (w1 : a1.size ≤ maxLen) (w2 : a2.size ≤ maxLen) (w3 : a3.size ≤ maxLen) (w4 : a4.size ≤ maxLen) (_w5 : (Lit.int .i64 a5).wf = true)
    (hkey : (cut70 a0).size = 4 * kk) (hnon : (cut70 a1).size = 12) (w : World) :
    Calls Try.prog 4 #[.string a0, .string a1, .string a2, .string a3, .string a4, .int .i64 a5] w fun e w' => e = .returned (.bool true) ∧ Below w.heap.size w w' := by
  have hh : (cut70 a2).size ≤ 70 := cut70_size _
  have ht : (cut70 a3).size ≤ 70 := cut70_size _
  have hm : min (a4.size : Int) 90 = ((min a4.size 90 : Nat) : Int) := by omega
  have h4 := w4
  unfold maxLen at h4
  have hsl : ∀ W, (Instr.slice 9 (.string a4) none (some (.int .i64 ((min a4.size 90 : Nat) : Int))) none).run Try.prog W = .ok (.string (a4.extract 0 (min a4.size 90))) W := fun W => by
    rw [run_slice_string_h (ht := Try.underlying9) (h0 := by omega) (h2 := by omega)]
    rfl
  have hb4 : (a4.extract 0 (min a4.size 90)).size ≤ 90 := by simp; omega
  generalize a4.extract 0 (min a4.size 90) = b4 at hsl hb4
  generalize min a4.size 90 = n at hm hsl
  -- what is sealed
  have C0 : Hid (∀ w, Calls Try.prog 15 #[.string (cut70 a0), .string (cut70 a1), .string (cut70 a2), .string (cut70 a3)] w fun e w' => e = .returned (.tuple #[.string ⟨(Sx.sealOf kk (cut70 a0).data.toList (cut70 a1).data.toList (cut70 a2).data.toList (cut70 a3).data.toList).toArray⟩, .int .i64 0]) ∧ Below w.heap.size w w') := by
    exact fun w => seal_any kk hk (cut70 a0) (cut70 a1) (cut70 a2) (cut70 a3) hkey hnon (by omega) (by omega) w
  have hb3 : (cut70 a3).data.toList.length = (cut70 a3).size := by simp
  have hsl3 := Sx.sealOf_length kk (cut70 a0).data.toList (cut70 a1).data.toList (cut70 a2).data.toList (cut70 a3).data.toList
  rw [hb3] at hsl3
  have hss : (⟨(Sx.sealOf kk (cut70 a0).data.toList (cut70 a1).data.toList (cut70 a2).data.toList (cut70 a3).data.toList).toArray⟩ : ByteArray).size = (cut70 a3).size + 16 := by rw [ba_len, hsl3]
  -- it is opened
  have C1 : Hid (∀ w, Calls Try.prog 11 #[.string (cut70 a0), .string (cut70 a1), .string (cut70 a2), .string ⟨(Sx.sealOf kk (cut70 a0).data.toList (cut70 a1).data.toList (cut70 a2).data.toList (cut70 a3).data.toList).toArray⟩] w fun e w' => e = .returned (.tuple #[.string (cut70 a3), .int .i64 0]) ∧ Below w.heap.size w w') := by
    refine show ∀ w, _ from fun w => ?_
    have hcl : (Sx.xorL (cut70 a3).data.toList (Sx.stream kk (cut70 a0).data.toList (cut70 a1).data.toList 2 (cut70 a3).size)).length = (cut70 a3).size := by rw [Sx.xorL_length, hb3]
    have htk : (Sx.sealOf kk (cut70 a0).data.toList (cut70 a1).data.toList (cut70 a2).data.toList (cut70 a3).data.toList).take (cut70 a3).size = Sx.xorL (cut70 a3).data.toList (Sx.stream kk (cut70 a0).data.toList (cut70 a1).data.toList 2 (cut70 a3).size) := by
      unfold Sx.sealOf
      rw [hb3, List.take_append_of_le_length (by omega), List.take_of_length_le (by omega)]
    have hdr : (Sx.sealOf kk (cut70 a0).data.toList (cut70 a1).data.toList (cut70 a2).data.toList (cut70 a3).data.toList).drop (cut70 a3).size = Sx.tag kk (cut70 a0).data.toList (cut70 a1).data.toList (cut70 a2).data.toList (Sx.xorL (cut70 a3).data.toList (Sx.stream kk (cut70 a0).data.toList (cut70 a1).data.toList 2 (cut70 a3).size)) := by
      unfold Sx.sealOf
      rw [hb3, List.drop_append_of_le_length (by omega), List.drop_of_length_le (by omega), List.nil_append]
    have := open_ok kk hk (cut70 a0) (cut70 a1) (cut70 a2) ⟨(Sx.sealOf kk (cut70 a0).data.toList (cut70 a1).data.toList (cut70 a2).data.toList (cut70 a3).data.toList).toArray⟩ (cut70 a3).size hkey hnon (by omega) hss (by omega) w (by
      show Sx.tag kk _ _ _ (List.take (cut70 a3).size (Sx.sealOf kk (cut70 a0).data.toList (cut70 a1).data.toList (cut70 a2).data.toList (cut70 a3).data.toList)) = List.drop (cut70 a3).size (Sx.sealOf kk (cut70 a0).data.toList (cut70 a1).data.toList (cut70 a2).data.toList (cut70 a3).data.toList)
      rw [htk, hdr])
    rw [show (⟨(Sx.sealOf kk (cut70 a0).data.toList (cut70 a1).data.toList (cut70 a2).data.toList (cut70 a3).data.toList).toArray⟩ : ByteArray).data.toList = Sx.sealOf kk (cut70 a0).data.toList (cut70 a1).data.toList (cut70 a2).data.toList (cut70 a3).data.toList from rfl, htk, Sx.xorL_back] at this
    exact this
  -- the bit
  have hmx : Try.prog.toTables.follows .mixedOrders = true := by kernel_rfl
  obtain ⟨i, hi, hilt⟩ : ∃ i : Nat, (wrap64 (a5.tmod (8 * (((cut70 a3).size : Int) + 16)) + 8 * (((cut70 a3).size : Int) + 16))).tmod (8 * (((cut70 a3).size : Int) + 16)) = (i : Int) ∧ i < 8 * ((cut70 a3).size + 16) := by
    have hm0 : 0 < 8 * (((cut70 a3).size : Int) + 16) := by omega
    have h1 := Int.tmod_lt_of_pos a5 hm0
    have h2 := Int.lt_tmod_of_pos a5 hm0
    have hw : wrap64 (a5.tmod (8 * (((cut70 a3).size : Int) + 16)) + 8 * (((cut70 a3).size : Int) + 16)) = a5.tmod (8 * (((cut70 a3).size : Int) + 16)) + 8 * (((cut70 a3).size : Int) + 16) := by
      unfold wrap64; omega
    rw [hw]
    have h3 := Int.tmod_lt_of_pos (a5.tmod (8 * (((cut70 a3).size : Int) + 16)) + 8 * (((cut70 a3).size : Int) + 16)) hm0
    have h4 := Int.tmod_nonneg (8 * (((cut70 a3).size : Int) + 16)) (show 0 ≤ a5.tmod (8 * (((cut70 a3).size : Int) + 16)) + 8 * (((cut70 a3).size : Int) + 16) by omega)
    generalize (a5.tmod (8 * (((cut70 a3).size : Int) + 16)) + 8 * (((cut70 a3).size : Int) + 16)).tmod (8 * (((cut70 a3).size : Int) + 16)) = z at h3 h4
    exact ⟨z.toNat, by omega, by omega⟩
  obtain ⟨p, hp⟩ : ∃ p : Nat, (i : Int) / 8 = (p : Int) := ⟨i / 8, by omega⟩
  obtain ⟨r, hr⟩ : ∃ r : Nat, (i : Int) % 8 = (r : Int) := ⟨i % 8, by omega⟩
  have hpl : p < (cut70 a3).size + 16 := by omega
  have hpl2 : (p : Int) < ((cut70 a3).size : Int) + 16 := by omega
  have hr8 : r < 8 := by omega
  have hconv := fun W => run_bytes_of_string W 9 32 5 ⟨(Sx.sealOf kk (cut70 a0).data.toList (cut70 a1).data.toList (cut70 a2).data.toList (cut70 a3).data.toList).toArray⟩ Try.underlying9 Try.underlying32 Try.underlying5
  generalize hS : Sx.sealOf kk (cut70 a0).data.toList (cut70 a1).data.toList (cut70 a2).data.toList (cut70 a3).data.toList = S at *
  have HS := Lib.hid hS
  clear hS
  have heq : ((((⟨S.toArray⟩ : ByteArray).size : Int)) != ((cut70 a3).size : Int) + 16) = false := by rw [bne_eq_false_iff_eq]; omega
  have hss1 : (⟨S.toArray⟩ : ByteArray).size ≤ 86 := by omega
  have htt : ((cut70 a3).toList == (cut70 a3).toList) = true := by simp
  have HSS := Lib.hid hss
  clear hss hb3
  go_enter Try.func4, Try.ntmps4
  go_wp2_with fail
  go_quiet ((go_at_call 10; exact Calls.quiet_of_same ((cut_any _ (by assumption) _).mono fun _ _ h => ⟨h.1, h.2.symm⟩)))
  go_wp2_with (first
    | (go_at_call 15; refine (C0.out _).mono ?_; rintro e w1 ⟨rfl, hk1⟩)
    | (go_at_call 11; refine (C1.out _).mono ?_; rintro e w2 ⟨rfl, hk2⟩)
    | (go_at_call 13; refine (alive8_any _).mono ?_; rintro e w3 ⟨rfl, hk3⟩))
  have hg3 := grownCap_ge w3 ((cut70 a3).size + 16) 0 5
  have hO : Own ((w3.alloc (Obj.cells (bytesRow { data := S.toArray } (grownCap w3 ((cut70 a3).size + 16) 0 5)) 5
          ((bytesRow { data := S.toArray } (grownCap w3 ((cut70 a3).size + 16) 0 5)).size, (bytesRow { data := S.toArray } (grownCap w3 ((cut70 a3).size + 16) 0 5)).size + 1))).drew) w.heap.size 1
      (.slice (some ⟨w3.heap.size, 0, none⟩) ((cut70 a3).size + 16) (grownCap w3 ((cut70 a3).size + 16) 0 5)) ((cut70 a3).size + 16) (bv S).toList := by
    have := Own.of_bytes (base := w.heap.size) ⟨S.toArray⟩ w3 5 (grownCap w3 ((cut70 a3).size + 16) 0 5) (by rw [HSS.out]; exact hg3) (by have := (Below.callee (Below.callee (Below.callee (below_dn w _) hk1) hk2) hk3).size; exact this)
    rw [HSS.out] at this
    exact this
  have hW : Below w.heap.size w ((w3.alloc (Obj.cells (bytesRow { data := S.toArray } (grownCap w3 ((cut70 a3).size + 16) 0 5)) 5
          ((bytesRow { data := S.toArray } (grownCap w3 ((cut70 a3).size + 16) 0 5)).size, (bytesRow { data := S.toArray } (grownCap w3 ((cut70 a3).size + 16) 0 5)).size + 1))).drew) :=
    ((Below.callee (Below.callee (Below.callee (below_dn w _) hk1) hk2) hk3).alloc (Below.callee (Below.callee (Below.callee (below_dn w _) hk1) hk2) hk3).size _).drew
  have hw3 : w.heap.size ≤ w3.heap.size := (Below.callee (Below.callee (Below.callee (below_dn w _) hk1) hk2) hk3).size
  generalize ((w3.alloc _).drew) = W0 at hO hW ⊢
  generalize grownCap w3 ((cut70 a3).size + 16) 0 5 = cp at hO hg3 ⊢
  generalize w3.heap.size = g3 at hO hw3 ⊢
  clear hk1 hk2 hk3 hconv
  have hc := hO.cells p (.int .u8 (U8 (S.getD p 0))) (bvl_get S p (by omega))
  have hf := hO.free p (by omega)
  generalize hx : S.getD p 0 = x at hc
  have HX := Lib.hid hx
  clear hx
  have hq1 : (i : Int).tdiv 8 = (p : Int) := by rw [← hp, Int.tdiv_eq_ediv_of_nonneg (by omega)]
  have hr1 : (i : Int).tmod 8 = (r : Int) := by rw [← hr, Int.tmod_eq_emod_of_nonneg (by omega)]
  have hq3 : IntKind.i64.wrap (p : Int) = (p : Int) := IntWalk.i64_in _ (by omega)
  refine wp_tail 10 hmx (by kernel_rfl) ?_
  simp only [List.take_succ_cons, List.take_zero, List.drop_succ_cons, List.drop_zero]
  obtain ⟨hmk, hmk0⟩ := bit_byte r hr8
  generalize UInt8.ofNat (2 ^ r) = mk at hmk hmk0
  repeat still_step
  refine wpStill_nil ?_
  go_wp2_with fail
  have hO4 : Own ((W0.setCell ⟨g3, p, none⟩ (.int .u8 (U8 (x ^^^ mk)))).drew) w.heap.size 1 (.slice (some ⟨g3, 0, none⟩) ((cut70 a3).size + 16) cp) ((cut70 a3).size + 16) (bv (S.set p (x ^^^ mk))).toList := by
    rw [← bv_set, Array.toList_setIfInBounds]
    exact (hO.stored p _).drew
  have hW4 : Below w.heap.size w ((W0.setCell ⟨g3, p, none⟩ (.int .u8 (U8 (x ^^^ mk)))).drew) := (hW.setCell hw3 _).drew
  have hb4l : b4.size ≤ 4112 := by omega
  have hol : (S.set p (x ^^^ mk)).length = (cut70 a3).size + 16 := by rw [List.length_set]; exact hsl3
  have hxx : x ^^^ mk ≠ x := fun e => hmk0 (by
    have := congrArg (fun y => x ^^^ y) e
    simpa [← UInt8.xor_assoc] using this)
  have hod : ∃ (ro : ByteArray) (co : Int), (∀ w, Calls Try.prog 11 #[.string (cut70 a0), .string (cut70 a1), .string (cut70 a2), .string ⟨(S.set p (x ^^^ mk)).toArray⟩] w fun e w' => e = .returned (.tuple #[.string ro, .int .i64 co]) ∧ Below w.heap.size w w') ∧
      (Sx.hkey kk (cut70 a0).data.toList ≠ List.replicate 16 0 → ro = ⟨#[]⟩ ∧ co = 5) := by
    by_cases hz : Sx.hkey kk (cut70 a0).data.toList = List.replicate 16 0
    · rcases open_seal kk hk (cut70 a0) (cut70 a1) (cut70 a2) ⟨(S.set p (x ^^^ mk)).toArray⟩ hkey hnon (by omega) (by rw [ba_len]; omega) with ⟨c, _, h⟩ | ⟨u, h, _⟩
      · exact ⟨_, _, h, fun h2 => absurd hz h2⟩
      · exact ⟨_, _, h, fun h2 => absurd hz h2⟩
    · refine ⟨_, _, fun w => open_auth kk hk (cut70 a0) (cut70 a1) (cut70 a2) ⟨(S.set p (x ^^^ mk)).toArray⟩ (cut70 a3).size hkey hnon (by omega) (by rw [ba_len]; omega) (by omega) w ?_, fun _ => ⟨rfl, rfl⟩⟩
      have := Sx.seal_turned kk (cut70 a0).data.toList (cut70 a1).data.toList (cut70 a2).data.toList (cut70 a3).data.toList hz p (by simp; omega) (x ^^^ mk) (by rw [HS.out, HX.out]; exact hxx)
      rw [HS.out, show (cut70 a3).data.toList.length = (cut70 a3).size by simp] at this
      exact this
  obtain ⟨ro, co, hC4, hro⟩ := hod
  have C4 := Lib.hid hC4
  have C5 : Hid (∀ w, Calls Try.prog 16 #[.string ⟨#[0]⟩, .int .i64 16] w fun e w' => e = .returned (.string ⟨(List.replicate 16 0).toArray⟩) ∧ Below w.heap.size w w') := by exact fun w => zeros_call 16 (by omega) w
  have C6 : Hid (∀ w, Calls Try.prog 17 #[.string (cut70 a0), .string ⟨(List.replicate 16 0).toArray⟩] w fun e w' => e = .returned (.tuple #[.string ⟨(Sx.hkey kk (cut70 a0).data.toList).toArray⟩, .int .i64 0]) ∧ Below w.heap.size w w') := by
    exact fun w => encrypt_any kk hk (cut70 a0) ⟨(List.replicate 16 0).toArray⟩ hkey rfl w
  have D := Lib.hid (open_seal kk hk (cut70 a0) (cut70 a1) (cut70 a2) b4 hkey hnon (by omega) hb4l)
  have hbb : (b4.toList == b4.toList) = true := by simp
  have hee : ((⟨#[]⟩ : ByteArray).toList == (⟨#[]⟩ : ByteArray).toList) = true := by simp
  clear hC4 hO hW hc hf hmk hmk0 hxx hsl3 hss1 heq htt hi hilt hp hr hpl hpl2 hr8 hq1 hr1 hq3 hkey hnon hh ht hm h4 hsl hb4 hb4l hg3 HS HSS HX
  generalize (List.replicate 16 (0 : UInt8)) = zz at *
  generalize Sx.hkey kk (cut70 a0).data.toList = hk0 at *
  generalize S.set p (x ^^^ mk) = od at *
  generalize (W0.setCell ⟨g3, p, none⟩ (.int .u8 (U8 (x ^^^ mk)))).drew = W4 at hO4 hW4 ⊢
  generalize (cut70 a3).size + 16 = sz at *
  by_cases hz : hk0 = zz
  · subst hz
    have HRO := hro
    clear hro HRO
    rcases D.out with ⟨c, hc0, hD⟩ | ⟨u, hD, hE⟩
    · have HD := Lib.hid hD
      have hc1 : (c != 0) = true := by rw [bne_iff_ne]; exact hc0
      clear hD D hc0
      go_wp2_with (first
        | (go_at_call 16; refine (C5.out _).mono ?_; rintro e w4 ⟨rfl, hk4⟩)
        | (go_at_call 17; refine (C6.out _).mono ?_; rintro e w5 ⟨rfl, hk5⟩
           have hcv := bytes_back_at (P := Try.prog) 32 9 5 Try.underlying32 Try.underlying5 Try.underlying9 (W := w5) (b := g3) (o := 0) (l := od) (fun j hj => by rw [Nat.zero_add]; exact ((hO4.below hk4).below hk5).cells j _ (by rw [Array.getElem?_toList]; exact bv_get _ j hj)) sz cp hol)
        | (go_at_call 11; ((with_reducible refine (C4.out _).mono ?_); rintro e w6 ⟨rfl, hk6⟩))
        | (go_at_call 11; ((with_reducible refine (HD.out _).mono ?_); rintro e w7 ⟨rfl, hk7⟩))
        | (go_at_call 15; ((with_reducible refine (HE.out _).mono ?_); rintro e w8 ⟨rfl, hk8⟩)))
      go_ret
      exact ⟨rfl, Below.callee (Below.callee (Below.callee (Below.callee hW4 hk4) hk5) hk6) hk7⟩
    · have HD := Lib.hid hD
      have HE := Lib.hid hE
      clear hD hE D
      go_wp2_with (first
        | (go_at_call 16; refine (C5.out _).mono ?_; rintro e w4 ⟨rfl, hk4⟩)
        | (go_at_call 17; refine (C6.out _).mono ?_; rintro e w5 ⟨rfl, hk5⟩
           have hcv := bytes_back_at (P := Try.prog) 32 9 5 Try.underlying32 Try.underlying5 Try.underlying9 (W := w5) (b := g3) (o := 0) (l := od) (fun j hj => by rw [Nat.zero_add]; exact ((hO4.below hk4).below hk5).cells j _ (by rw [Array.getElem?_toList]; exact bv_get _ j hj)) sz cp hol)
        | (go_at_call 11; ((with_reducible refine (C4.out _).mono ?_); rintro e w6 ⟨rfl, hk6⟩))
        | (go_at_call 11; ((with_reducible refine (HD.out _).mono ?_); rintro e w7 ⟨rfl, hk7⟩))
        | (go_at_call 15; ((with_reducible refine (HE.out _).mono ?_); rintro e w8 ⟨rfl, hk8⟩)))
      go_ret
      exact ⟨rfl, Below.callee (Below.callee (Below.callee (Below.callee (Below.callee hW4 hk4) hk5) hk6) hk7) hk8⟩
  · obtain ⟨rfl, rfl⟩ := hro hz
    have hne : (hk0 == zz) = false := by rw [beq_eq_false_iff_ne]; exact hz
    clear hz hro
    rcases D.out with ⟨c, hc0, hD⟩ | ⟨u, hD, hE⟩
    · have HD := Lib.hid hD
      have hc1 : (c != 0) = true := by rw [bne_iff_ne]; exact hc0
      clear hD D hc0
      go_wp2_with (first
        | (go_at_call 16; refine (C5.out _).mono ?_; rintro e w4 ⟨rfl, hk4⟩)
        | (go_at_call 17; refine (C6.out _).mono ?_; rintro e w5 ⟨rfl, hk5⟩
           have hcv := bytes_back_at (P := Try.prog) 32 9 5 Try.underlying32 Try.underlying5 Try.underlying9 (W := w5) (b := g3) (o := 0) (l := od) (fun j hj => by rw [Nat.zero_add]; exact ((hO4.below hk4).below hk5).cells j _ (by rw [Array.getElem?_toList]; exact bv_get _ j hj)) sz cp hol)
        | (go_at_call 11; ((with_reducible refine (C4.out _).mono ?_); rintro e w6 ⟨rfl, hk6⟩))
        | (go_at_call 11; ((with_reducible refine (HD.out _).mono ?_); rintro e w7 ⟨rfl, hk7⟩))
        | (go_at_call 15; ((with_reducible refine (HE.out _).mono ?_); rintro e w8 ⟨rfl, hk8⟩)))
      go_ret
      exact ⟨rfl, Below.callee (Below.callee (Below.callee (Below.callee hW4 hk4) hk5) hk6) hk7⟩
    · have HD := Lib.hid hD
      have HE := Lib.hid hE
      clear hD hE D
      go_wp2_with (first
        | (go_at_call 16; refine (C5.out _).mono ?_; rintro e w4 ⟨rfl, hk4⟩)
        | (go_at_call 17; refine (C6.out _).mono ?_; rintro e w5 ⟨rfl, hk5⟩
           have hcv := bytes_back_at (P := Try.prog) 32 9 5 Try.underlying32 Try.underlying5 Try.underlying9 (W := w5) (b := g3) (o := 0) (l := od) (fun j hj => by rw [Nat.zero_add]; exact ((hO4.below hk4).below hk5).cells j _ (by rw [Array.getElem?_toList]; exact bv_get _ j hj)) sz cp hol)
        | (go_at_call 11; ((with_reducible refine (C4.out _).mono ?_); rintro e w6 ⟨rfl, hk6⟩))
        | (go_at_call 11; ((with_reducible refine (HD.out _).mono ?_); rintro e w7 ⟨rfl, hk7⟩))
        | (go_at_call 15; ((with_reducible refine (HE.out _).mono ?_); rintro e w8 ⟨rfl, hk8⟩)))
      go_ret
      exact ⟨rfl, Below.callee (Below.callee (Below.callee (Below.callee (Below.callee hW4 hk4) hk5) hk6) hk7) hk8⟩
end
end Go.Proofs.Ytieooonobjkglaa
