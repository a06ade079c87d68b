/- GHASH's field: multiplication by what is not 0 loses nothing. No condition; no program in sight. -/
import Derived.Test.YtieooonobjkglaaFrobT
namespace Go.Proofs.Ytieooonobjkglaa
open SW
namespace Sx
set_option maxRecDepth 100000
/-! ### Bits -/
theorem u64_ext {a b : UInt64} (h : ∀ j, j < 64 → a.toNat.testBit j = b.toNat.testBit j) : a = b := by
  apply UInt64.toNat_inj.1
  apply Nat.eq_of_testBit_eq
  intro j
  by_cases hj : j < 64
  · exact h j hj
  · rw [Nat.testBit_lt_two_pow (Nat.lt_of_lt_of_le a.toNat_lt (Nat.pow_le_pow_right (by omega) (by omega))), Nat.testBit_lt_two_pow (Nat.lt_of_lt_of_le b.toNat_lt (Nat.pow_le_pow_right (by omega) (by omega)))]
theorem and1_testBit (a : UInt64) : (a &&& 1 == 1) = a.toNat.testBit 0 := by
  rw [Bool.eq_iff_iff, beq_iff_eq, ← UInt64.toNat_inj]
  simp [Nat.testBit_zero, Nat.and_one_is_mod]
theorem shr_testBit (a : UInt64) (k j : Nat) (hk : k < 64) : (a >>> UInt64.ofNat k).toNat.testBit j = a.toNat.testBit (k + j) := by
  have e : (UInt64.ofNat k).toNat % 64 = k := by rw [UInt64.toNat_ofNat']; omega
  rw [UInt64.toNat_shiftRight, e, Nat.testBit_shiftRight]
theorem bit_eq (p : Poly) (i : Nat) : bit p i = (if i < 64 then p.1 else p.2).toNat.testBit (63 - i % 64) := by
  unfold bit
  rw [and1_testBit, shr_testBit _ _ _ (by omega), Nat.add_zero]
theorem bit_hi (p : Poly) (i : Nat) (h : i < 64) : bit p i = p.1.toNat.testBit (63 - i) := by rw [bit_eq, if_pos h, Nat.mod_eq_of_lt h]
theorem bit_lo (p : Poly) (i : Nat) (h : 64 ≤ i) (h2 : i < 128) : bit p i = p.2.toNat.testBit (127 - i) := by rw [bit_eq, if_neg (by omega), show 63 - i % 64 = 127 - i by omega]
theorem poly_ext {p q : Poly} (h : ∀ i, i < 128 → bit p i = bit q i) : p = q := by
  apply Prod.ext
  · apply u64_ext
    intro j hj
    have := h (63 - j) (by omega)
    rw [bit_hi _ _ (by omega), bit_hi _ _ (by omega)] at this
    rwa [show 63 - (63 - j) = j by omega] at this
  · apply u64_ext
    intro j hj
    have := h (127 - j) (by omega)
    rw [bit_lo _ _ (by omega) (by omega), bit_lo _ _ (by omega) (by omega)] at this
    rwa [show 127 - (127 - j) = j by omega] at this
theorem bit_xor (p q : Poly) (i : Nat) : bit (pxor p q) i = (bit p i ^^ bit q i) := by
  rw [bit_eq, bit_eq, bit_eq]
  unfold pxor
  split <;> simp [UInt64.toNat_xor, Nat.testBit_xor]
theorem bit_zero (i : Nat) : bit (0, 0) i = false := by rw [bit_eq]; split <;> simp
/-! ### Sums -/
theorem px_comm (a b : Poly) : pxor a b = pxor b a := by unfold pxor; rw [UInt64.xor_comm, UInt64.xor_comm a.2]
theorem px_assoc (a b c : Poly) : pxor (pxor a b) c = pxor a (pxor b c) := by unfold pxor; rw [UInt64.xor_assoc, UInt64.xor_assoc]
theorem px_self (a : Poly) : pxor a a = (0, 0) := by unfold pxor; rw [UInt64.xor_self, UInt64.xor_self]
theorem px_zero (a : Poly) : pxor a (0, 0) = a := by unfold pxor; rw [UInt64.xor_zero, UInt64.xor_zero]
theorem zero_px (a : Poly) : pxor (0, 0) a = a := by rw [px_comm, px_zero]
theorem px_eq_zero {a b : Poly} (h : pxor a b = (0, 0)) : a = b := by
  have := congrArg (fun x => pxor x b) h
  simp only [px_assoc, px_self, px_zero, zero_px] at this
  exact this
theorem px_four (a b c d : Poly) : pxor (pxor a b) (pxor c d) = pxor (pxor a c) (pxor b d) := by
  rw [px_assoc, ← px_assoc b, px_comm b c, px_assoc c, ← px_assoc]
theorem px_left {a b c : Poly} (h : pxor c a = pxor c b) : a = b := by
  have := congrArg (pxor c) h
  rwa [← px_assoc, ← px_assoc, px_self, zero_px, zero_px] at this
/-- A map that keeps sums. -/
structure Lin (F : Poly → Poly) : Prop where
  zero : F (0, 0) = (0, 0)
  add : ∀ a b, F (pxor a b) = pxor (F a) (F b)
def unit (k : Nat) : Poly := if k < 64 then (1 <<< UInt64.ofNat (63 - k), 0) else (0, 1 <<< UInt64.ofNat (127 - k))
theorem bit_unit : ∀ k, k < 128 → ∀ j, j < 128 → bit (unit k) j = (j == k) := by decide +kernel
def sumTo (v : Poly) : Nat → Poly
  | 0 => (0, 0)
  | k + 1 => pxor (sumTo v k) (if bit v k then unit k else (0, 0))
theorem bit_sumTo (v : Poly) (k : Nat) (hk : k ≤ 128) (j : Nat) (hj : j < 128) : bit (sumTo v k) j = (decide (j < k) && bit v j) := by
  induction k with
  | zero => simp [sumTo, bit_zero]
  | succ k ih =>
    rw [sumTo, bit_xor, ih (by omega)]
    by_cases e : j = k
    · subst e
      cases hb : bit v j
      · simp [bit_zero]
      · simp [bit_unit j (by omega) j hj]
    · have hu : bit (if bit v k then unit k else (0, 0)) j = false := by
        split
        · rw [bit_unit k (by omega) j hj]; simpa using e
        · exact bit_zero j
      rw [hu]
      have : decide (j < k + 1) = decide (j < k) := by rw [decide_eq_decide]; omega
      rw [this]; simp
theorem sumTo_all (v : Poly) : sumTo v 128 = v := poly_ext fun j hj => by rw [bit_sumTo v 128 (by omega) j hj]; simp [hj]
theorem Lin.sumTo {F G : Poly → Poly} (hF : Lin F) (hG : Lin G) (h : ∀ k, k < 128 → F (unit k) = G (unit k)) (v : Poly) (k : Nat) (hk : k ≤ 128) : F (sumTo v k) = G (sumTo v k) := by
  induction k with
  | zero => rw [Sx.sumTo, hF.zero, hG.zero]
  | succ k ih =>
    rw [Sx.sumTo, hF.add, hG.add, ih (by omega)]
    congr 1
    split
    · exact h k (by omega)
    · rw [hF.zero, hG.zero]
theorem Lin.ext {F G : Poly → Poly} (hF : Lin F) (hG : Lin G) (h : ∀ k, k < 128 → F (unit k) = G (unit k)) (v : Poly) : F v = G v := by
  have := hF.sumTo hG h v 128 (by omega)
  rwa [sumTo_all] at this
theorem Lin.id : Lin (fun v => v) := ⟨rfl, fun _ _ => rfl⟩
theorem Lin.comp {F G : Poly → Poly} (hF : Lin F) (hG : Lin G) : Lin (fun v => F (G v)) := ⟨by rw [hG.zero, hF.zero], fun a b => by rw [hG.add, hF.add]⟩
theorem Lin.px {F G : Poly → Poly} (hF : Lin F) (hG : Lin G) : Lin (fun v => pxor (F v) (G v)) := ⟨by rw [hG.zero, hF.zero, px_self], fun a b => by rw [hG.add, hF.add, px_four]⟩
/-! ### The product -/
theorem bit_shifted (p : Poly) (i : Nat) (hi : i < 128) : bit (shifted p) i = (if i = 0 then false else bit p (i - 1)) := by
  have e1 : (1 : UInt64) = UInt64.ofNat 1 := rfl
  have e63 : (63 : UInt64) = UInt64.ofNat 63 := rfl
  by_cases h0 : i = 0
  · subst h0
    rw [bit_hi _ _ (by omega)]
    show (p.1 >>> 1).toNat.testBit 63 = _
    rw [e1, shr_testBit _ _ _ (by omega), if_pos rfl]
    exact Nat.testBit_lt_two_pow p.1.toNat_lt
  · rw [if_neg h0]
    by_cases h : i < 64
    · rw [bit_hi _ _ h, bit_hi _ _ (by omega)]
      show (p.1 >>> 1).toNat.testBit (63 - i) = _
      rw [e1, shr_testBit _ _ _ (by omega), show 1 + (63 - i) = 63 - (i - 1) by omega]
    · rw [bit_lo _ _ (by omega) hi]
      show (p.1 <<< 63 ||| p.2 >>> 1).toNat.testBit (127 - i) = _
      have e : (63 : UInt64).toNat % 64 = 63 := rfl
      rw [UInt64.toNat_or, Nat.testBit_or, e1, shr_testBit _ _ _ (by omega), UInt64.toNat_shiftLeft, e, Nat.testBit_mod_two_pow, Nat.testBit_shiftLeft]
      by_cases h64 : i = 64
      · subst h64
        rw [bit_hi _ _ (by omega)]
        have : p.2.toNat.testBit (1 + (127 - 64)) = false := Nat.testBit_lt_two_pow p.2.toNat_lt
        rw [this]
        simp
      · rw [bit_lo _ _ (by omega) (by omega)]
        have : decide (127 - i ≥ 63) = false := by simp; omega
        rw [this, show 1 + (127 - i) = 127 - (i - 1) by omega]
        simp
theorem shifted_lin : Lin shifted := by
  refine ⟨rfl, fun a b => poly_ext fun i hi => ?_⟩
  rw [bit_xor, bit_shifted _ _ hi, bit_shifted _ _ hi, bit_shifted _ _ hi]
  split
  · rfl
  · exact bit_xor _ _ _
theorem raised_eq (p : Poly) : raised p = pxor (shifted p) (if bit p 127 then (16212958658533785600, 0) else (0, 0)) := by
  have hb : bit p 127 = (p.2 &&& 1 == 1) := by rw [and1_testBit, bit_lo _ _ (by omega) (by omega)]
  unfold raised
  rw [hb]
  split
  · unfold pxor; rw [UInt64.xor_zero]
  · rw [px_zero]
/-- What a bit turns on. -/
theorem on_lin (i : Nat) (c : Poly) : Lin (fun v => if bit v i then c else (0, 0)) := by
  refine ⟨by simp [bit_zero], fun a b => ?_⟩
  show (if bit (pxor a b) i then c else (0, 0)) = _
  rw [bit_xor]
  cases bit a i <;> cases bit b i <;> simp [px_zero, zero_px, px_self]
theorem raised_lin : Lin raised := by
  have : raised = fun p => pxor (shifted p) (if bit p 127 then (16212958658533785600, 0) else (0, 0)) := funext raised_eq
  rw [this]
  exact Lin.px shifted_lin (on_lin _ _)
theorem timesAt_eq (p q : Poly) (k : Nat) : timesAt p q (k + 1) = pxor (raised (timesAt p q k)) (if bit q (127 - k) then p else (0, 0)) := by
  rw [timesAt]; split
  · rfl
  · rw [px_zero]
theorem timesAt_left (q : Poly) (k : Nat) : Lin (fun p => timesAt p q k) := by
  induction k with
  | zero => exact ⟨rfl, fun _ _ => (px_self (0, 0)).symm⟩
  | succ k ih =>
    have : (fun p => timesAt p q (k + 1)) = fun p => pxor (raised (timesAt p q k)) (if bit q (127 - k) then p else (0, 0)) := funext fun p => timesAt_eq p q k
    rw [this]
    refine Lin.px (Lin.comp raised_lin ih) ⟨by simp, fun a b => ?_⟩
    show (if _ then _ else _) = _
    split
    · rfl
    · exact (px_self _).symm
theorem timesAt_right (p : Poly) (k : Nat) : Lin (fun q => timesAt p q k) := by
  induction k with
  | zero => exact ⟨rfl, fun _ _ => (px_self (0, 0)).symm⟩
  | succ k ih =>
    have : (fun q => timesAt p q (k + 1)) = fun q => pxor (raised (timesAt p q k)) (if bit q (127 - k) then p else (0, 0)) := funext fun q => timesAt_eq p q k
    rw [this]
    exact Lin.px (Lin.comp raised_lin ih) (on_lin _ _)
theorem times_left (q : Poly) : Lin (fun p => times p q) := timesAt_left q 128
theorem times_right (p : Poly) : Lin (fun q => times p q) := timesAt_right p 128
theorem timesAt_raised (p q : Poly) (k : Nat) : timesAt (raised p) q k = raised (timesAt p q k) := by
  induction k with
  | zero => exact raised_lin.zero.symm
  | succ k ih =>
    rw [timesAt_eq, timesAt_eq, ih, raised_lin.add]
    congr 1
    split
    · rfl
    · exact raised_lin.zero.symm
theorem times_raised (p q : Poly) : times (raised p) q = raised (times p q) := timesAt_raised p q 128
def one : Poly := unit 0
theorem unit_raised : ∀ k, k < 127 → raised (unit k) = unit (k + 1) := by decide +kernel
theorem one_unit : ∀ k, k < 128 → times one (unit k) = unit k := by decide +kernel
theorem one_times (v : Poly) : times one v = v := Lin.ext (times_right one) Lin.id one_unit v
def itr {α : Type} (f : α → α) : Nat → α → α
  | 0, x => x
  | k + 1, x => f (itr f k x)
theorem itr_add {α : Type} (f : α → α) (m n : Nat) (x : α) : itr f m (itr f n x) = itr f (m + n) x := by
  induction m with
  | zero => simp [itr]
  | succ m ih => rw [itr, ih, show m + 1 + n = (m + n) + 1 by omega, itr]
theorem itr_lin {F : Poly → Poly} (h : Lin F) (k : Nat) : Lin (itr F k) := by
  induction k with
  | zero => exact Lin.id
  | succ k ih => exact ⟨by rw [itr, ih.zero, h.zero], fun a b => by rw [itr, ih.add, h.add]; rfl⟩
theorem unit_times (k : Nat) (hk : k < 128) (v : Poly) : times (unit k) v = itr raised k v := by
  induction k with
  | zero => exact one_times v
  | succ k ih => rw [← unit_raised k (by omega), times_raised, ih (by omega), itr]
theorem unit_itr (k : Nat) (hk : k < 128) : unit k = itr raised k one := by
  induction k with
  | zero => rfl
  | succ k ih => rw [itr, ← ih (by omega), unit_raised k (by omega)]
theorem times_comm (a b : Poly) : times a b = times b a := by
  refine Lin.ext (times_left b) (times_right b) (fun k hk => ?_) a
  refine Lin.ext (times_right (unit k)) (times_left (unit k)) (fun j hj => ?_) b
  show times (unit k) (unit j) = times (unit j) (unit k)
  rw [unit_times k hk, unit_times j hj, unit_itr j hj, unit_itr k hk, itr_add, itr_add, Nat.add_comm]
theorem itr_raised_times (k : Nat) (a b : Poly) : times (itr raised k a) b = itr raised k (times a b) := by
  induction k with
  | zero => rfl
  | succ k ih => rw [itr, times_raised, ih, itr]
theorem times_assoc (a b c : Poly) : times (times a b) c = times a (times b c) := by
  refine Lin.ext (F := fun a => times (times a b) c) (G := fun a => times a (times b c)) (Lin.comp (times_left c) (times_left b)) (times_left _) (fun k hk => ?_) a
  show times (times (unit k) b) c = times (unit k) (times b c)
  rw [unit_times k hk, itr_raised_times, unit_times k hk]
theorem times_one (v : Poly) : times v one = v := by rw [times_comm, one_times]
theorem zero_times (v : Poly) : times (0, 0) v = (0, 0) := (times_left v).zero
theorem times_zero (v : Poly) : times v (0, 0) = (0, 0) := (times_right v).zero
/-! ### Squares -/
def sq (a : Poly) : Poly := times a a
theorem sq_lin : Lin sq := ⟨zero_times _, fun a b => by
  unfold sq
  rw [(times_left _).add, (times_right a).add, (times_right b).add, times_comm b a, px_assoc, ← px_assoc (times a b) (times a b), px_self, zero_px]⟩
theorem sq_times (a b : Poly) : sq (times a b) = times (sq a) (sq b) := by
  unfold sq
  rw [times_assoc, ← times_assoc b a b, times_comm b a, times_assoc a b b, ← times_assoc]
theorem itr_sq_times (k : Nat) (a b : Poly) : itr sq k (times a b) = times (itr sq k a) (itr sq k b) := by
  induction k with
  | zero => rfl
  | succ k ih => rw [itr, ih, sq_times]; rfl
theorem frob_x : itr sq 128 (unit 1) = unit 1 := by decide +kernel
theorem frob_unit (k : Nat) (hk : k < 128) : itr sq 128 (unit k) = unit k := by
  induction k with
  | zero =>
    have h1 : ∀ n, itr sq n one = one := fun n => by
      induction n with
      | zero => rfl
      | succ n ih => rw [itr, ih]; exact one_times one
    exact h1 128
  | succ k ih =>
    have e : unit (k + 1) = times (unit 1) (unit k) := by rw [unit_times 1 (by omega), itr, itr, unit_raised k (by omega)]
    rw [e, itr_sq_times, frob_x, ih (by omega)]
theorem frob (v : Poly) : itr sq 128 v = v := Lin.ext (itr_lin sq_lin 128) Lin.id frob_unit v
/-! ### What is its own square -/
def tabL : List Poly → Nat → Poly → Poly
  | [], _, _ => (0, 0)
  | c :: l, i, v => pxor (if bit v i then c else (0, 0)) (tabL l (i + 1) v)
theorem tabL_lin (l : List Poly) (i : Nat) : Lin (tabL l i) := by
  induction l generalizing i with
  | nil => exact ⟨rfl, fun _ _ => (px_self _).symm⟩
  | cons c l ih => exact Lin.px (on_lin i c) (ih (i + 1))
theorem tab_unit : ∀ k, k < 128 → tabL frobTab 0 (pxor (sq (unit k)) (unit k)) = pxor (unit k) (if bit (unit k) 0 then one else (0, 0)) := by decide +kernel
theorem tab_all (v : Poly) : tabL frobTab 0 (pxor (sq v) v) = pxor v (if bit v 0 then one else (0, 0)) :=
  Lin.ext (Lin.comp (tabL_lin frobTab 0) (Lin.px sq_lin Lin.id)) (Lin.px Lin.id (on_lin 0 one)) tab_unit v
theorem sq_fixed {v : Poly} (h : sq v = v) : v = (0, 0) ∨ v = one := by
  have := tab_all v
  rw [h, px_self, (tabL_lin frobTab 0).zero] at this
  have e := px_eq_zero this.symm
  cases hb : bit v 0
  · left; rw [hb] at e; exact e
  · right; rw [hb] at e; exact e
/-! ### Nothing is lost -/
/-- The product of the squares from the m-th on, n of them. -/
def norm (q : Poly) (m : Nat) : Nat → Poly
  | 0 => one
  | n + 1 => times (itr sq m q) (norm q (m + 1) n)
theorem sq_norm (q : Poly) (n : Nat) : ∀ m, sq (norm q m n) = norm q (m + 1) n := by
  induction n with
  | zero => intro m; exact one_times one
  | succ n ih => intro m; rw [norm, norm, sq_times, ih]; rfl
theorem norm_back (q : Poly) (n : Nat) : ∀ m, norm q m (n + 1) = times (norm q m n) (itr sq (m + n) q) := by
  induction n with
  | zero => intro m; rw [norm, norm, norm, one_times, times_one, Nat.add_zero]
  | succ n ih =>
    intro m
    rw [norm, ih, norm, times_assoc, show m + 1 + n = m + (n + 1) by omega]
theorem norm_fixed (q : Poly) : sq (norm q 0 128) = norm q 0 128 := by
  rw [sq_norm, norm_back q 127 1, show 1 + 127 = 128 from rfl, frob, times_comm]
  rfl
theorem norm_keeps (q : Poly) (n : Nat) : ∀ m, times (itr sq m q) (norm q m n) = itr sq (m + n) q := by
  induction n with
  | zero => intro m; rw [norm, times_one, Nat.add_zero]
  | succ n ih =>
    intro m
    rw [norm, ← times_assoc]
    have : times (itr sq m q) (itr sq m q) = itr sq (m + 1) q := rfl
    rw [this, ih, show m + 1 + n = m + (n + 1) by omega]
theorem no_zeros {p q : Poly} (h : times p q = (0, 0)) (hq : q ≠ (0, 0)) : p = (0, 0) := by
  rcases sq_fixed (norm_fixed q) with e | e
  · exfalso
    have := norm_keeps q 128 0
    rw [e, times_zero, Nat.zero_add, frob] at this
    exact hq this.symm
  · have e2 : times q (norm q 1 127) = one := e
    have := congrArg (fun x => times x (norm q 1 127)) h
    have this : times (times p q) (norm q 1 127) = times (0, 0) (norm q 1 127) := this
    rw [times_assoc, e2, times_one, zero_times] at this
    exact this
theorem times_inj {a b q : Poly} (hq : q ≠ (0, 0)) (h : times a q = times b q) : a = b := by
  apply px_eq_zero
  apply no_zeros (q := q) _ hq
  rw [(times_left q).add, h, px_self]
end Sx
end Go.Proofs.Ytieooonobjkglaa
