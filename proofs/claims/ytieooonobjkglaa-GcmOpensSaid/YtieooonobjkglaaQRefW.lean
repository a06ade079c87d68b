/- The reference's AES: small contracts and its key's words as plain lists. No condition on the world. -/
import Derived.Test.YtieooonobjkglaaQRefBox
import Derived.Test.YtieooonobjkglaaQRefSum
import Derived.Test.YtieooonobjkglaaPXorx1
import Derived.Test.YtieooonobjkglaaQGcm
namespace Go.Proofs.Ytieooonobjkglaa
open Go.RowKit Go.Proofs.YtieooonobjkglaaW.PrintWords Go.Proofs.YtieooonobjkglaaW.PrintMore SW
namespace PXor
open Rf
theorem xor_ev (a b : ByteArray) (hab : a.size ≤ b.size) (ha : a.size ≤ 1000000) : Ev (fun n => saltusref06_Xor.f n a b) ⟨(Sx.xorL a.data.toList b.data.toList).toArray⟩ := by
  have hl : a.data.toList.length = a.size := by simp
  have hX : Sx.xorL a.data.toList b.data.toList = (List.range a.size).map fun i => a.data.toList.getD i 0 ^^^ b.data.toList.getD i 0 := by unfold Sx.xorL; rw [hl]
  have key : ∀ j k, k + j = a.size → Ev (fun n => saltusref06_Xor.l0 n a b (nums8 ((List.range k).map fun i => a.data.toList.getD i 0 ^^^ b.data.toList.getD i 0)) (k : Int)) ⟨(Sx.xorL a.data.toList b.data.toList).toArray⟩ := by
    intro j
    induction j with
    | zero =>
      intro k hk
      obtain rfl : k = a.size := by omega
      refine Ev.step (f := fun _ => some (strOfNums (nums8 (Sx.xorL a.data.toList b.data.toList)))) (fun n => ?_) ?_
      · simp only [saltusref06_Xor.l0, saltusref06_text.f]; rw [if_neg (by omega), hX]; rfl
      · rw [str_nums]; exact Ev.now _
    | succ j ih =>
      intro k hk
      have hs : nums8 ((List.range (k + 1)).map fun i => a.data.toList.getD i 0 ^^^ b.data.toList.getD i 0) = nums8 ((List.range k).map fun i => a.data.toList.getD i 0 ^^^ b.data.toList.getD i 0) ++ [((a.data.toList.getD k 0 ^^^ b.data.toList.getD k 0).toNat : Int)] := by
        rw [List.range_succ]; simp [nums8]
      refine Ev.step (f := fun n => saltusref06_Xor.l0 n a b (nums8 ((List.range (k + 1)).map fun i => a.data.toList.getD i 0 ^^^ b.data.toList.getD i 0)) ((k + 1 : Nat) : Int)) (fun n => ?_) (ih (k + 1) (by omega))
      simp only [saltusref06_Xor.l0]
      rw [if_pos (by omega), if_pos (by omega), if_pos (by omega), if_pos (by simp [nums8]; omega), bt_nat a k (by omega), bt_nat b k (by omega), Rf.xor_u8, PSum.one_cast, w_add k 1 (by omega), hs]
  exact key a.size 0 (by omega)
end PXor
theorem rxor6_any (a b : ByteArray) (hab : a.size ≤ b.size) (ha : a.size ≤ 1000000) (w : World) : Calls Try.prog 117 #[.string a, .string b] w fun e w' => e = .returned (.string ⟨(Sx.xorL a.data.toList b.data.toList).toArray⟩) ∧ Below w.heap.size w w' := by
  obtain ⟨k, h⟩ := (PXor.xor_ev a b hab ha).rounds
  exact PXor.saltusref06_Xor.calls k a b _ w h
theorem rxor7_any (a b : ByteArray) (hab : a.size ≤ b.size) (ha : a.size ≤ 1000000) (w : World) : Calls Try.prog 40 #[.string a, .string b] w fun e w' => e = .returned (.string ⟨(Sx.xorL a.data.toList b.data.toList).toArray⟩) ∧ Below w.heap.size w w' := by
  obtain ⟨k, h⟩ := (PSum.xor_ev a b hab ha).rounds
  exact PSum.saltusref07_Xor.calls k a b _ w h
theorem rsum_any (h a s : ByteArray) (hh : h.size = 16) (ha : a.size ≤ 100000) (hs : s.size ≤ 100000) (w : World) : Calls Try.prog 89 #[.string h, .string a, .string s] w fun e w' => e = .returned (.string ⟨(Sx.sum h.data.toList a.data.toList s.data.toList).toArray⟩) ∧ Below w.heap.size w w' := by
  obtain ⟨k, he⟩ := (PSum.sum_ev h a s hh ha hs).rounds
  exact PSum.saltusref07_Sum.calls k h a s _ w he
theorem rboxed_any (s : ByteArray) (hs : s.size ≤ 1000000) (w : World) : Calls Try.prog 119 #[.string s] w fun e w' => e = .returned (.string ⟨(s.data.toList.map Sx.box).toArray⟩) ∧ Below w.heap.size w w' := by
  obtain ⟨k, h⟩ := (PBoxed.boxed_ev s hs).rounds
  exact PBoxed.saltusref06_Boxed.calls k s _ w h
theorem rmixed_any (s : ByteArray) (hs : s.size = 16) (w : World) : Calls Try.prog 120 #[.string s] w fun e w' => e = .returned (.string ⟨(Sx.mixed s.data.toList).toArray⟩) ∧ Below w.heap.size w w' := by
  obtain ⟨k, h⟩ := (PMixed.mixed_ev s hs).rounds
  exact PMixed.saltusref06_Mixed.calls k s _ w h
theorem rturned_any (s : ByteArray) (hs : s.size = 16) (w : World) : Calls Try.prog 118 #[.string s] w fun e w' => e = .returned (.string ⟨(Sx.turned s.data.toList).toArray⟩) ∧ Below w.heap.size w w' := by
  obtain ⟨k, h⟩ := (PTurned.turned_ev s hs).rounds
  exact PTurned.saltusref06_Turned.calls k s _ w h
theorem rmul2_any (x : UInt8) (w : World) : Calls Try.prog 155 #[.int .u8 (U8 x), .int .u8 2] w fun e w' => e = .returned (.int .u8 (U8 (Sx.tw x))) ∧ Below w.heap.size w w' := by
  obtain ⟨k, h⟩ := (PBoxed.mul_ev x.toNat 2 x.toNat_lt (by omega)).rounds
  rw [(Rf.mulN_1 x).2.1] at h
  exact (PBoxed.saltusref05_Mul.calls k _ 2 _ w h).mono fun _ _ h => ⟨h.1, h.2.below⟩
/-! ### The key's words -/
namespace Sx
def wordAt (kk : Nat) (key : List UInt8) (j : Nat) : List UInt8 := ((kall kk key (4 * (kk + 7))).drop (4 * j)).take 4
def kw (kk i : Nat) (t : List UInt8) : List UInt8 := kword kk i (t.getD 0 0) (t.getD 1 0) (t.getD 2 0) (t.getD 3 0)
theorem kall_take (kk : Nat) (key : List UInt8) (hk : key.length = 4 * kk) (i : Nat) (hi : kk ≤ i) : ∀ j, (kall kk key (i + j)).take (4 * i) = kall kk key i
  | 0 => by rw [Nat.add_zero]; exact List.take_of_length_le (by rw [kall_length kk key hk i hi]; exact Nat.le_refl _)
  | j + 1 => by
    rw [show i + (j + 1) = (i + j) + 1 by omega, kall_succ kk key _ (by omega), List.take_append_of_le_length (by rw [kall_length kk key hk _ (by omega)]; omega)]
    exact kall_take kk key hk i hi j
theorem kall_getD (kk : Nat) (key : List UInt8) (hk : key.length = 4 * kk) (i n x : Nat) (hi : kk ≤ i) (hn : i ≤ n) (hx : x < 4 * i) : (kall kk key n).getD x 0 = (kall kk key i).getD x 0 := by
  have := kall_take kk key hk i hi (n - i)
  rw [show i + (n - i) = n by omega] at this
  rw [← this, List.getD_eq_getElem?_getD, List.getD_eq_getElem?_getD, List.getElem?_take_of_lt hx]
theorem four (l : List UInt8) (j : Nat) (h : 4 * j + 4 ≤ l.length) : (l.drop (4 * j)).take 4 = [l.getD (4 * j) 0, l.getD (4 * j + 1) 0, l.getD (4 * j + 2) 0, l.getD (4 * j + 3) 0] := by
  have g : ∀ i, i < l.length → l.getD i 0 = (l[i]?).getD 0 := fun i _ => List.getD_eq_getElem?_getD ..
  apply List.ext_getElem?
  intro r
  match r with
  | 0 => simp [List.getElem?_eq_getElem (show 4 * j < l.length by omega)]
  | 1 => simp [List.getElem?_eq_getElem (show 4 * j + 1 < l.length by omega)]
  | 2 => simp [List.getElem?_eq_getElem (show 4 * j + 2 < l.length by omega)]
  | 3 => simp [List.getElem?_eq_getElem (show 4 * j + 3 < l.length by omega)]
  | r + 4 => rw [List.getElem?_eq_none (by rw [List.length_take]; omega)]; simp
theorem wordAt_eq (kk : Nat) (key : List UInt8) (hk : key.length = 4 * kk) (j : Nat) (hj : j < 4 * (kk + 7)) : wordAt kk key j =
    [(kall kk key (4 * (kk + 7))).getD (4 * j) 0, (kall kk key (4 * (kk + 7))).getD (4 * j + 1) 0, (kall kk key (4 * (kk + 7))).getD (4 * j + 2) 0, (kall kk key (4 * (kk + 7))).getD (4 * j + 3) 0] :=
  four _ j (by rw [kall_length kk key hk _ (by omega)]; omega)
theorem wordAt_length (kk : Nat) (key : List UInt8) (hk : key.length = 4 * kk) (j : Nat) (hj : j < 4 * (kk + 7)) : (wordAt kk key j).length = 4 := by rw [wordAt_eq kk key hk j hj]; rfl
theorem wordAt_first (kk : Nat) (key : List UInt8) (hk : key.length = 4 * kk) (j : Nat) (hj : j < kk) : wordAt kk key j = (key.drop (4 * j)).take 4 := by
  have h0 := kall_first kk key kk (Nat.le_refl _)
  rw [wordAt_eq kk key hk j (by omega), four key j (by omega)]
  rw [kall_getD kk key hk kk _ (4 * j) (Nat.le_refl _) (by omega) (by omega), kall_getD kk key hk kk _ (4 * j + 1) (Nat.le_refl _) (by omega) (by omega), kall_getD kk key hk kk _ (4 * j + 2) (Nat.le_refl _) (by omega) (by omega), kall_getD kk key hk kk _ (4 * j + 3) (Nat.le_refl _) (by omega) (by omega), h0]
theorem wordAt_next (kk : Nat) (key : List UInt8) (hk : key.length = 4 * kk) (_h1 : 1 ≤ kk) (i : Nat) (hi : kk ≤ i) (hj : i < 4 * (kk + 7)) : wordAt kk key i = xorL (wordAt kk key (i - kk)) (kw kk i (wordAt kk key (i - 1))) := by
  have hN : ∀ x, x < 4 * i → (kall kk key (4 * (kk + 7))).getD x 0 = (kall kk key i).getD x 0 := fun x hx => kall_getD kk key hk i _ x hi (by omega) hx
  have hw1 := wordAt_eq kk key hk (i - 1) (by omega)
  rw [hN _ (by omega), hN _ (by omega), hN _ (by omega), hN _ (by omega)] at hw1
  have hk0 : kw kk i (wordAt kk key (i - 1)) = kwords kk i (kall kk key i) := by
    rw [hw1]
    unfold kw kwords
    rw [show 4 * (i - 1) = 4 * i - 4 by omega]
    rfl
  rw [hk0, wordAt_eq kk key hk (i - kk) (by omega), hN _ (by omega), hN _ (by omega), hN _ (by omega), hN _ (by omega)]
  have hall : ∀ r, r < 4 → (kall kk key (4 * (kk + 7))).getD (4 * i + r) 0 = (kadd kk i (kall kk key i) (kwords kk i (kall kk key i)) 4).getD r 0 := fun r hr => by
    rw [kall_getD kk key hk (i + 1) _ (4 * i + r) (by omega) (by omega) (by omega), kall_succ kk key i hi, List.getD_eq_getElem?_getD, List.getElem?_append_right (by rw [kall_length kk key hk i hi]; omega), kall_length kk key hk i hi, show 4 * i + r - 4 * i = r by omega, ← List.getD_eq_getElem?_getD]
  rw [wordAt_eq kk key hk i hj]
  have h0 : (kall kk key (4 * (kk + 7))).getD (4 * i) 0 = (kadd kk i (kall kk key i) (kwords kk i (kall kk key i)) 4).getD 0 0 := hall 0 (by omega)
  rw [h0, hall 1 (by omega), hall 2 (by omega), hall 3 (by omega)]
  rfl
theorem pow_it : ∀ n, n < 12 → pow 2 n = itr tw n 1 := by decide +kernel
end Sx
end Go.Proofs.Ytieooonobjkglaa
namespace Go.Proofs.Ytieooonobjkglaa
open Go Go.Proofs Go.RowKit Go.Shelf SW
set_option maxRecDepth 20000
set_option maxHeartbeats 4000000
theorem rpow_any (m : Nat) (hm : m < 12) (w : World) : Calls Try.prog 174 #[.int .u8 2, .int .i64 m] w fun e w' => e = .returned (.int .u8 (U8 (Sx.pow 2 m))) ∧ Below w.heap.size w w' := by
  have HR : Hid (Sx.pow 2 m = Sx.itr Sx.tw m 1) := by exact Sx.pow_it m hm
  go_enter Try.func174, Try.ntmps174
  go_wp2
  go_loopw [5, 6] (fun v iv wr => ∃ k : Nat, k ≤ m ∧ iv = .int .i64 k ∧ v = .int .u8 (U8 (Sx.itr Sx.tw k 1)) ∧ Below w.heap.size w wr) (fun _ iv _ => m - (intOf iv).toNat)
  case atStart => exact ⟨0, by omega, rfl, rfl, Below.refl _ _⟩
  case round =>
    obtain ⟨k, hk, rfl, rfl, hW⟩ := hrel
    by_cases hlt : k < m
    · have hs : Sx.itr Sx.tw (k + 1) 1 = Sx.tw (Sx.itr Sx.tw k 1) := rfl
      generalize Sx.itr Sx.tw k 1 = y at hs
      have HS := Lib.hid hs
      clear hs
      go_wp2_with (go_at_call 155; refine (rmul2_any y _).mono ?_; rintro e w1 ⟨rfl, hk1⟩)
      go_roundw
      case rel => exact ⟨k + 1, by omega, by go_num, by rw [HS.out], Below.callee hW hk1⟩
      case measure => simp [intOf]; omega
    · obtain rfl : k = m := by omega
      go_wp2
      go_ret
      rw [HR.out]
      exact ⟨rfl, hW⟩
theorem rtext_any (l : List UInt8) (g cap : Nat) (w : World) (hc : ∀ j (hj : j < l.length), w.cell? ⟨g, j, none⟩ = some (.int .u8 (U8 l[j]))) :
    Calls Try.prog 153 #[.slice (some ⟨g, 0, none⟩) l.length cap] w fun e w' => e = .returned (.string ⟨l.toArray⟩) ∧ w = w' := by
  have hcv := bytes_back_at (P := Try.prog) 32 9 5 Try.underlying32 Try.underlying5 Try.underlying9 (W := w) (b := g) (o := 0) (l := l) (fun j hj => by rw [Nat.zero_add]; exact hc j hj) l.length cap rfl
  clear hc
  go_enter Try.func153, Try.ntmps153
  go_wp2
  go_ret
  exact ⟨rfl, rfl⟩
end Go.Proofs.Ytieooonobjkglaa
