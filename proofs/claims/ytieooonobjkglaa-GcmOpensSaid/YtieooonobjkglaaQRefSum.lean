/- The reference's Sum of blocks is the program's. No condition; no program in sight. -/
import Derived.Test.YtieooonobjkglaaQPlain
import Derived.Test.YtieooonobjkglaaQRefBox
import Derived.Test.YtieooonobjkglaaPSumx2
namespace Go.Proofs.Ytieooonobjkglaa
open Go.RowKit Go.Proofs.YtieooonobjkglaaW.PrintWords Go.Proofs.YtieooonobjkglaaW.PrintLast Go.Proofs.YtieooonobjkglaaW.PrintMore SW
namespace PSum
open Rf
set_option maxRecDepth 100000
theorem xor_u8 (a b : UInt8) : Go.bits .xor .u8 (a.toNat : Int) (b.toNat : Int) = ((a ^^^ b).toNat : Int) := U8_xor a b
theorem wi (k m : Nat) (h : k + m ≤ 4611686018427387904) : wrap64 ((k : Int) + ((m : Nat) : Int)) = ((k + m : Nat) : Int) := w_add k m h
theorem one_cast (k : Nat) : ((k : Int) + 1) = (k : Int) + ((1 : Nat) : Int) := rfl
theorem xor_ev (a b : ByteArray) (hab : a.size ≤ b.size) (ha : a.size ≤ 1000000) : Ev (fun n => saltusref07_Xor.f n a b) ⟨(Sx.xorL a.data.toList b.data.toList).toArray⟩ := by
  have hl : a.data.toList.length = a.size := by simp
  have hX : Sx.xorL a.data.toList b.data.toList = (List.range a.size).map fun i => a.data.toList.getD i 0 ^^^ b.data.toList.getD i 0 := by unfold Sx.xorL; rw [hl]
  have key : ∀ j k, k + j = a.size → Ev (fun n => saltusref07_Xor.l0 n a b (nums8 ((List.range k).map fun i => a.data.toList.getD i 0 ^^^ b.data.toList.getD i 0)) (k : Int)) ⟨(Sx.xorL a.data.toList b.data.toList).toArray⟩ := by
    intro j
    induction j with
    | zero =>
      intro k hk
      obtain rfl : k = a.size := by omega
      refine Ev.step (f := fun _ => some (strOfNums (nums8 (Sx.xorL a.data.toList b.data.toList)))) (fun n => ?_) ?_
      · simp only [saltusref07_Xor.l0]; rw [if_neg (by omega), hX]
      · rw [str_nums]; exact Ev.now _
    | succ j ih =>
      intro k hk
      have hs : nums8 ((List.range (k + 1)).map fun i => a.data.toList.getD i 0 ^^^ b.data.toList.getD i 0) = nums8 ((List.range k).map fun i => a.data.toList.getD i 0 ^^^ b.data.toList.getD i 0) ++ [((a.data.toList.getD k 0 ^^^ b.data.toList.getD k 0).toNat : Int)] := by
        rw [List.range_succ]; simp [nums8]
      refine Ev.step (f := fun n => saltusref07_Xor.l0 n a b (nums8 ((List.range (k + 1)).map fun i => a.data.toList.getD i 0 ^^^ b.data.toList.getD i 0)) ((k + 1 : Nat) : Int)) (fun n => ?_) (ih (k + 1) (by omega))
      simp only [saltusref07_Xor.l0]
      rw [if_pos (by omega), if_pos (by omega), if_pos (by omega), if_pos (by simp [nums8]; omega), bt_nat a k (by omega), bt_nat b k (by omega), xor_u8, one_cast, w_add k 1 (by omega), hs]
  exact key a.size 0 (by omega)
/-! ### A bit -/
theorem halves_ev (x r : Nat) (hx : x < 256) (_hr : r ≤ 7) : ∀ j k, k + j = 7 → r ≤ k → Ev (fun n => saltusref07_Bit.l0 n ((x / 2 ^ (k - r) : Nat) : Int) (k : Int)) (x / 2 ^ (7 - r) % 2 == 1) := by
  intro j
  induction j with
  | zero =>
    intro k hk hrk
    obtain rfl : k = 7 := by omega
    refine Ev.step (f := fun _ => some (x / 2 ^ (7 - r) % 2 == 1)) (fun n => ?_) (Ev.now _)
    simp only [saltusref07_Bit.l0]
    generalize x / 2 ^ (7 - r) = y
    rw [if_neg (by omega), Int.tmod_eq_emod_of_nonneg (by omega)]
    congr 1
    rw [Bool.eq_iff_iff, beq_iff_eq, beq_iff_eq]
    omega
  | succ j ih =>
    intro k hk hrk
    have hle : x / 2 ^ (k - r) ≤ x := Nat.div_le_self _ _
    have hd : x / 2 ^ (k - r) / 2 = x / 2 ^ (k + 1 - r) := by rw [Nat.div_div_eq_div_mul, ← Nat.pow_succ, show (k - r).succ = k + 1 - r by omega]
    have e : wrap64 (Int.tdiv ((x / 2 ^ (k - r) : Nat) : Int) 2) = ((x / 2 ^ (k + 1 - r) : Nat) : Int) := by
      rw [← hd]
      generalize x / 2 ^ (k - r) = y at hle
      rw [Int.tdiv_eq_ediv_of_nonneg (by omega)]
      exact w_nat (y / 2) (by omega)
    refine Ev.step (f := fun n => saltusref07_Bit.l0 n ((x / 2 ^ (k + 1 - r) : Nat) : Int) ((k + 1 : Nat) : Int)) (fun n => ?_) (ih (k + 1) (by omega) (by omega))
    simp only [saltusref07_Bit.l0]
    rw [if_pos (by omega), e, one_cast, w_add k 1 (by omega)]
theorem bit_ev (s : ByteArray) (hs : s.size = 16) (i : Nat) (hi : i < 128) : Ev (fun n => saltusref07_Bit.f n s (i : Int)) (Sx.rbit s.data.toList i) := by
  have e1 : wrap64 (Int.tdiv (i : Int) 8) = ((i / 8 : Nat) : Int) := by
    rw [Int.tdiv_eq_ediv_of_nonneg (by omega), show ((i : Int) / 8) = ((i / 8 : Nat) : Int) by omega]
    exact w_nat _ (by omega)
  have e2 : Int.tmod (i : Int) 8 = ((i % 8 : Nat) : Int) := by rw [Int.tmod_eq_emod_of_nonneg (by omega)]; omega
  have hlt := UInt8.toNat_lt (s.data.toList.getD (i / 8) 0)
  refine Ev.congr (f := fun n => saltusref07_Bit.l0 n (((s.data.toList.getD (i / 8) 0).toNat / 2 ^ (i % 8 - i % 8) : Nat) : Int) ((i % 8 : Nat) : Int)) (fun n => ?_) ?_
  · simp only [saltusref07_Bit.f]
    rw [e1, if_pos (by omega), if_pos (by omega), bt_nat s (i / 8) (by omega), w_nat _ (by omega), e2, Nat.sub_self, Nat.pow_zero, Nat.div_one]
  · exact halves_ev _ (i % 8) hlt (by omega) (7 - i % 8) (i % 8) (by omega) (Nat.le_refl _)
/-! ### The long product -/
def bs (l : List UInt8) (i : Nat) : Bool := decide (i < 128) && Sx.rbit l i
def odds (a b : List UInt8) (p : Nat) : Bool := Sx.oddTo (bs a) (bs b) p 128
theorem product_ev (a b : ByteArray) (ha : a.size = 16) (hb : b.size = 16) : Ev (fun n => saltusref07_product.f n a b) ((List.range 255).map (odds a.data.toList b.data.toList)) := by
  have inner : ∀ (x5 : List Bool) (p : Nat) (R : List Bool), x5.length ≤ 255 → p < 255 → Ev (fun n => saltusref07_product.l0 n a b (x5 ++ [odds a.data.toList b.data.toList p]) ((p + 1 : Nat) : Int)) R →
      ∀ j i, i + j = 128 → Ev (fun n => saltusref07_product.l1 n a b x5 (p : Int) (Sx.oddTo (bs a.data.toList) (bs b.data.toList) p i) (i : Int)) R := by
    intro x5 p R hx hp hR j
    induction j with
    | zero =>
      intro i hi
      obtain rfl : i = 128 := by omega
      refine Ev.step (f := fun n => saltusref07_product.l0 n a b (x5 ++ [odds a.data.toList b.data.toList p]) ((p + 1 : Nat) : Int)) (fun n => ?_) hR
      simp only [saltusref07_product.l1]
      rw [if_neg (by omega), if_pos (by omega), one_cast, w_add p 1 (by omega)]
      rfl
    | succ j ih =>
      intro i hi
      have hw : wrap64 ((p : Int) - (i : Int)) = (p : Int) - (i : Int) := wrap64_of (by omega) (by omega)
      have hi1 : wrap64 ((i : Int) + 1) = ((i + 1 : Nat) : Int) := by rw [one_cast, w_add i 1 (by omega)]
      have hst : Sx.oddTo (bs a.data.toList) (bs b.data.toList) p (i + 1) = (Sx.oddTo (bs a.data.toList) (bs b.data.toList) p i ^^ (decide (i ≤ p) && (bs a.data.toList i && bs b.data.toList (p - i)))) := rfl
      have hbi : bs a.data.toList i = Sx.rbit a.data.toList i := by simp [bs]; omega
      have hih := ih (i + 1) (by omega)
      rw [hst] at hih
      by_cases h1 : i ≤ p
      · by_cases h2 : p - i < 128
        · have hbp : bs b.data.toList (p - i) = Sx.rbit b.data.toList (p - i) := by simp [bs, h2]
          have hc : (p : Int) - (i : Int) = ((p - i : Nat) : Int) := by omega
          refine Ev.step (f := fun n => (saltusref07_Bit.f n a (i : Int)).bind fun t => if t = true then (saltusref07_Bit.f n b ((p - i : Nat) : Int)).bind fun u => if u = true then saltusref07_product.l1 n a b x5 (p : Int) (!(Sx.oddTo (bs a.data.toList) (bs b.data.toList) p i)) ((i + 1 : Nat) : Int) else saltusref07_product.l1 n a b x5 (p : Int) (Sx.oddTo (bs a.data.toList) (bs b.data.toList) p i) ((i + 1 : Nat) : Int) else saltusref07_product.l1 n a b x5 (p : Int) (Sx.oddTo (bs a.data.toList) (bs b.data.toList) p i) ((i + 1 : Nat) : Int)) (fun n => ?_) ?_
          · simp only [saltusref07_product.l1]
            rw [if_pos (by omega), hw, hi1, hc, if_pos (by omega), if_pos (by omega)]
          · refine Ev.bind (bit_ev a ha i (by omega)) ?_
            rw [hbi, hbp] at hih
            cases hA : Sx.rbit a.data.toList i
            · rw [hA] at hih
              simpa [h1] using hih
            · rw [hA] at hih
              simp only [if_true]
              refine Ev.bind (bit_ev b hb (p - i) h2) ?_
              cases hB : Sx.rbit b.data.toList (p - i)
              · rw [hB] at hih; simpa [h1] using hih
              · rw [hB] at hih; simpa [h1] using hih
        · have hbp : bs b.data.toList (p - i) = false := by simp [bs, h2]
          refine Ev.step (f := fun n => saltusref07_product.l1 n a b x5 (p : Int) (Sx.oddTo (bs a.data.toList) (bs b.data.toList) p i) ((i + 1 : Nat) : Int)) (fun n => ?_) ?_
          · simp only [saltusref07_product.l1]
            rw [if_pos (by omega), hw, hi1, if_pos (by omega), if_neg (by omega)]
          · rw [hbp] at hih; simpa using hih
      · refine Ev.step (f := fun n => saltusref07_product.l1 n a b x5 (p : Int) (Sx.oddTo (bs a.data.toList) (bs b.data.toList) p i) ((i + 1 : Nat) : Int)) (fun n => ?_) ?_
        · simp only [saltusref07_product.l1]
          rw [if_pos (by omega), hw, hi1, if_neg (by omega)]
        · simpa [h1] using hih
  have outer : ∀ j p, p + j = 255 → Ev (fun n => saltusref07_product.l0 n a b ((List.range p).map (odds a.data.toList b.data.toList)) (p : Int)) ((List.range 255).map (odds a.data.toList b.data.toList)) := by
    intro j
    induction j with
    | zero =>
      intro p hp
      obtain rfl : p = 255 := by omega
      refine Ev.step (f := fun _ => some ((List.range 255).map (odds a.data.toList b.data.toList))) (fun n => ?_) (Ev.now _)
      simp only [saltusref07_product.l0]; rw [if_neg (by omega)]
    | succ j ih =>
      intro p hp
      refine Ev.step (f := fun n => saltusref07_product.l1 n a b ((List.range p).map (odds a.data.toList b.data.toList)) (p : Int) (Sx.oddTo (bs a.data.toList) (bs b.data.toList) p 0) ((0 : Nat) : Int)) (fun n => ?_) ?_
      · simp only [saltusref07_product.l0]; rw [if_pos (by omega)]; rfl
      · refine inner _ p _ (by simp; omega) (by omega) ?_ 128 0 rfl
        have := ih (p + 1) (by omega)
        rwa [List.range_succ, List.map_append] at this
  exact outer 255 0 rfl
/-! ### Its fold -/
theorem flip_at (l : List Bool) (j : Nat) (hj : j < l.length) (hl : l.length ≤ 1000) : saltusref07_flip.f l (j : Int) = some (l.set j (!(l.getD j false))) := by
  unfold saltusref07_flip.f
  simp only [Option.bind_some, List.nil_append]
  rw [if_pos (by simp; omega), if_pos (by omega), if_pos (by omega)]
  have : (j : Int).toNat = j := by omega
  simp only [rdOf, this]
theorem getD_flip (l : List Bool) (j : Nat) (hj : j < l.length) (i : Nat) : (l.set j (!(l.getD j false))).getD i false = (l.getD i false ^^ (i == j)) := by
  rw [List.getD_eq_getElem?_getD, List.getElem?_set]
  by_cases h : j = i
  · subst h
    simp [hj]
  · rw [if_neg h, ← List.getD_eq_getElem?_getD]
    have : (i == j) = false := by simp; omega
    rw [this]; simp
def byteTo (f : Nat → Bool) (i : Nat) : Nat → Nat
  | 0 => 0
  | k + 1 => 2 * byteTo f i k + (if f (8 * i + k) then 1 else 0)
theorem byteTo_lt (f : Nat → Bool) (i k : Nat) : byteTo f i k < 2 ^ k := by
  induction k with
  | zero => simp [byteTo]
  | succ k ih => rw [byteTo, Nat.pow_succ]; split <;> omega
def byteOf (f : Nat → Bool) (i : Nat) : UInt8 := UInt8.ofNat (byteTo f i 8)
theorem byteOf_nat (f : Nat → Bool) (i : Nat) : (byteOf f i).toNat = byteTo f i 8 := by
  unfold byteOf
  rw [UInt8.toNat_ofNat']
  exact Nat.mod_eq_of_lt (byteTo_lt f i 8)
theorem byte_bit (f : Nat → Bool) (i k : Nat) (hk : k < 8) : (byteTo f i 8 / 2 ^ (7 - k) % 2 == 1) = f (8 * i + k) := by
  have h : ∀ c : Bool, (if c then 1 else 0 : Nat) ≤ 1 := fun c => by cases c <;> simp
  simp only [byteTo]
  match k, hk with
  | 0, _ => cases f (8 * i + 0) <;> simp <;> (have := h (f (8 * i + 1)); have := h (f (8 * i + 2)); have := h (f (8 * i + 3)); have := h (f (8 * i + 4)); have := h (f (8 * i + 5)); have := h (f (8 * i + 6)); have := h (f (8 * i + 7)); omega)
  | 1, _ => cases f (8 * i + 1) <;> simp <;> (have := h (f (8 * i + 0)); have := h (f (8 * i + 2)); have := h (f (8 * i + 3)); have := h (f (8 * i + 4)); have := h (f (8 * i + 5)); have := h (f (8 * i + 6)); have := h (f (8 * i + 7)); omega)
  | 2, _ => cases f (8 * i + 2) <;> simp <;> (have := h (f (8 * i + 3)); have := h (f (8 * i + 4)); have := h (f (8 * i + 5)); have := h (f (8 * i + 6)); have := h (f (8 * i + 7)); omega)
  | 3, _ => cases f (8 * i + 3) <;> simp <;> (have := h (f (8 * i + 4)); have := h (f (8 * i + 5)); have := h (f (8 * i + 6)); have := h (f (8 * i + 7)); omega)
  | 4, _ => cases f (8 * i + 4) <;> simp <;> (have := h (f (8 * i + 5)); have := h (f (8 * i + 6)); have := h (f (8 * i + 7)); omega)
  | 5, _ => cases f (8 * i + 5) <;> simp <;> (have := h (f (8 * i + 6)); have := h (f (8 * i + 7)); omega)
  | 6, _ => cases f (8 * i + 6) <;> simp <;> (have := h (f (8 * i + 7)); omega)
  | 7, _ => cases f (8 * i + 7) <;> simp <;> omega
theorem bytes_ev (l : List Bool) (hl : l.length = 128) : Ev (fun n => saltusref07_bytes.f n l) ⟨((List.range 16).map (byteOf fun i => l.getD i false)).toArray⟩ := by
  have inner : ∀ (x3 : List Int) (i : Nat) (R : ByteArray), x3.length ≤ 16 → i < 16 → Ev (fun n => saltusref07_bytes.l0 n l (x3 ++ [((byteOf (fun i => l.getD i false) i).toNat : Int)]) ((i + 1 : Nat) : Int)) R →
      ∀ j k, k + j = 8 → Ev (fun n => saltusref07_bytes.l1 n l x3 (i : Int) ((byteTo (fun i => l.getD i false) i k : Nat) : Int) (k : Int)) R := by
    intro x3 i R hx hi hR j
    induction j with
    | zero =>
      intro k hk
      obtain rfl : k = 8 := by omega
      refine Ev.step (f := fun n => saltusref07_bytes.l0 n l (x3 ++ [((byteOf (fun i => l.getD i false) i).toNat : Int)]) ((i + 1 : Nat) : Int)) (fun n => ?_) hR
      have hb := byteTo_lt (fun i => l.getD i false) i 8
      simp only [saltusref07_bytes.l1]
      rw [if_neg (by omega), if_pos (by omega), one_cast, w_add i 1 (by omega), byteOf_nat]
      congr 3
      omega
    | succ j ih =>
      intro k hk
      have hb : byteTo (fun i => l.getD i false) i k < 256 := Nat.lt_of_lt_of_le (byteTo_lt _ i k) (by
        have : 2 ^ k ≤ 2 ^ 8 := Nat.pow_le_pow_right (by omega) (by omega)
        exact this)
      have hs : byteTo (fun i => l.getD i false) i (k + 1) = 2 * byteTo (fun i => l.getD i false) i k + (if l.getD (8 * i + k) false then 1 else 0) := rfl
      have hih := ih (k + 1) (by omega)
      rw [hs] at hih
      generalize byteTo (fun i => l.getD i false) i k = y at hb hih
      refine Ev.step (f := fun n => saltusref07_bytes.l1 n l x3 (i : Int) ((2 * y + (if l.getD (8 * i + k) false then 1 else 0) : Nat) : Int) ((k + 1 : Nat) : Int)) (fun n => ?_) hih
      simp only [saltusref07_bytes.l1]
      rw [if_pos (show (k : Int) < 8 by omega), show (8 : Int) = ((8 : Nat) : Int) from rfl, w_mul 8 i (by omega), w_add (8 * i) k (by omega), if_pos (by omega), if_pos (by omega), show (2 : Int) = ((2 : Nat) : Int) from rfl, w_mul 2 y (by omega), one_cast, w_add (2 * y) 1 (by omega), one_cast, w_add k 1 (by omega)]
      have hr : rdOf false l (((8 * i + k : Nat)) : Int) = l.getD (8 * i + k) false := by
        unfold rdOf
        congr 1
      rw [hr]
      cases l.getD (8 * i + k) false <;> simp
  have outer : ∀ j i, i + j = 16 → Ev (fun n => saltusref07_bytes.l0 n l (nums8 ((List.range i).map (byteOf fun i => l.getD i false))) (i : Int)) ⟨((List.range 16).map (byteOf fun i => l.getD i false)).toArray⟩ := by
    intro j
    induction j with
    | zero =>
      intro i hi
      obtain rfl : i = 16 := by omega
      refine Ev.step (f := fun _ => some (strOfNums (nums8 ((List.range 16).map (byteOf fun i => l.getD i false))))) (fun n => ?_) ?_
      · simp only [saltusref07_bytes.l0]; rw [if_neg (by omega)]
      · rw [str_nums]; exact Ev.now _
    | succ j ih =>
      intro i hi
      refine Ev.step (f := fun n => saltusref07_bytes.l1 n l (nums8 ((List.range i).map (byteOf fun i => l.getD i false))) (i : Int) ((byteTo (fun i => l.getD i false) i 0 : Nat) : Int) ((0 : Nat) : Int)) (fun n => ?_) ?_
      · simp only [saltusref07_bytes.l0]; rw [if_pos (by omega)]; rfl
      · refine inner _ i _ (by simp [nums8]; omega) (by omega) ?_ 8 0 rfl
        have := ih (i + 1) (by omega)
        rw [List.range_succ, List.map_append] at this
        simpa [nums8] using this
  exact outer 16 0 rfl
theorem bytes_val (f : Nat → Bool) : (List.range 16).map (byteOf f) = Sx.polyBlock (Sx.val f 128) := by
  refine Sx.block_bits _ (by simp) _ (fun i hi => ?_)
  rw [Sx.bit_val _ 128 (by omega) i hi]
  unfold Sx.rbit
  have : ((List.range 16).map (byteOf f)).getD (i / 8) 0 = byteOf f (i / 8) := by
    rw [List.getD_eq_getElem?_getD, List.getElem?_map, List.getElem?_range (by omega)]; rfl
  rw [this, byteOf_nat, byte_bit f (i / 8) (i % 8) (by omega), show 8 * (i / 8) + i % 8 = i by omega]
  simp [hi]
theorem fold_ev (P : Sx.Poly) : ∀ j p (l : List Bool), l.length = 255 → p + 1 = 128 + j → p ≤ 254 → Sx.val (fun i => l.getD i false) (p + 1) = P → Ev (fun n => saltusref07_Mul.l0 n l (p : Int)) ⟨(Sx.polyBlock P).toArray⟩ := by
  intro j
  induction j with
  | zero =>
    intro p l hl hp _ hv
    obtain rfl : p = 127 := by omega
    have ht : (l.take 128).length = 128 := by rw [List.length_take]; omega
    refine Ev.step (f := fun n => (saltusref07_bytes.f n (l.take 128)).bind fun t => some t) (fun n => ?_) ?_
    · simp only [saltusref07_Mul.l0]; rw [if_neg (by omega), if_pos (by omega)]
    · refine Ev.bind (bytes_ev _ ht) ?_
      rw [bytes_val, show Sx.val (fun i => (l.take 128).getD i false) 128 = P by
        rw [← hv]
        refine Sx.val_congr 128 fun i hi => ?_
        rw [List.getD_eq_getElem?_getD, List.getD_eq_getElem?_getD, List.getElem?_take_of_lt hi]]
      exact Ev.now _
  | succ j ih =>
    intro p l hl hp hp2 hv
    have hw1 : wrap64 ((p : Int) - 1) = ((p - 1 : Nat) : Int) := w_sub p 1 (by omega) (by omega)
    have hr : rdOf false l (p : Int) = l.getD p false := by unfold rdOf; congr 1
    rw [Sx.val] at hv
    cases hb : l.getD p false
    · refine Ev.step (f := fun n => saltusref07_Mul.l0 n l ((p - 1 : Nat) : Int)) (fun n => ?_) (ih (p - 1) l hl (by omega) (by omega) ?_)
      · simp only [saltusref07_Mul.l0]
        rw [if_pos (by omega), if_pos (by omega), if_pos (by omega), hr, hb, hw1]
        simp
      · rw [hb] at hv
        rw [show p - 1 + 1 = p by omega, ← hv]
        exact (Sx.px_zero _).symm
    · have h1 := flip_at l (p - 128) (by omega) (by omega)
      have g1 := getD_flip l (p - 128) (by omega)
      have n1 : (l.set (p - 128) (!(l.getD (p - 128) false))).length = 255 := by simpa using hl
      generalize l.set (p - 128) (!(l.getD (p - 128) false)) = l1 at h1 g1 n1
      have h2 := flip_at l1 (p - 127) (by omega) (by omega)
      have g2 := getD_flip l1 (p - 127) (by omega)
      have n2 : (l1.set (p - 127) (!(l1.getD (p - 127) false))).length = 255 := by simpa using n1
      generalize l1.set (p - 127) (!(l1.getD (p - 127) false)) = l2 at h2 g2 n2
      have h3 := flip_at l2 (p - 126) (by omega) (by omega)
      have g3 := getD_flip l2 (p - 126) (by omega)
      have n3 : (l2.set (p - 126) (!(l2.getD (p - 126) false))).length = 255 := by simpa using n2
      generalize l2.set (p - 126) (!(l2.getD (p - 126) false)) = l3 at h3 g3 n3
      have h4 := flip_at l3 (p - 121) (by omega) (by omega)
      have g4 := getD_flip l3 (p - 121) (by omega)
      have n4 : (l3.set (p - 121) (!(l3.getD (p - 121) false))).length = 255 := by simpa using n3
      generalize l3.set (p - 121) (!(l3.getD (p - 121) false)) = l4 at h4 g4 n4
      refine Ev.step (f := fun n => saltusref07_Mul.l0 n l4 ((p - 1 : Nat) : Int)) (fun n => ?_) (ih (p - 1) l4 n4 (by omega) (by omega) ?_)
      · simp only [saltusref07_Mul.l0]
        rw [if_pos (by omega), if_pos (by omega), if_pos (by omega), hr, hb, hw1, show (128 : Int) = ((128 : Nat) : Int) from rfl, show (127 : Int) = ((127 : Nat) : Int) from rfl, show (126 : Int) = ((126 : Nat) : Int) from rfl, show (121 : Int) = ((121 : Nat) : Int) from rfl,
          w_sub p 128 (by omega) (by omega), w_sub p 127 (by omega) (by omega), w_sub p 126 (by omega) (by omega), w_sub p 121 (by omega) (by omega), h1]
        simp only [if_true, Option.bind_some, h2, h3, h4]
      · rw [hb] at hv
        have e4 : (fun i => l4.getD i false) = fun i => (((l.getD i false ^^ (i == p - 128)) ^^ (i == p - 127)) ^^ (i == p - 126)) ^^ (i == p - 121) := by
          funext i; rw [g4, g3, g2, g1]
        rw [show p - 1 + 1 = p by omega, e4, Sx.val_flip _ _ _ (by omega), Sx.val_flip _ _ _ (by omega), Sx.val_flip _ _ _ (by omega), Sx.val_flip _ _ _ (by omega), ← hv]
        simp only [Sx.on, if_true]
        rw [Sx.E_fold p (by omega)]
        simp only [Sx.px_assoc]
theorem mul_ev (a b : ByteArray) (ha : a.size = 16) (hb : b.size = 16) : Ev (fun n => saltusref07_Mul.f n a b) ⟨(Sx.polyBlock (Sx.times (Sx.polyOf a.data.toList) (Sx.polyOf b.data.toList))).toArray⟩ := by
  refine Ev.bind (product_ev a b ha hb) ?_
  refine fold_ev _ 127 254 _ (by simp) rfl (by omega) ?_
  have hval : ∀ s : ByteArray, s.size = 16 → Sx.val (bs s.data.toList) 128 = Sx.polyOf s.data.toList := fun s hs => by
    rw [← Sx.val_bits (Sx.polyOf s.data.toList)]
    refine Sx.val_congr 128 fun i hi => ?_
    rw [Sx.poly_bit _ (by simpa using hs) i hi]
    simp [bs, hi]
  have h1 : Sx.val (fun i => ((List.range 255).map (odds a.data.toList b.data.toList)).getD i false) 255 = Sx.val (odds a.data.toList b.data.toList) 255 := by
    refine Sx.val_congr 255 fun i hi => ?_
    rw [List.getD_eq_getElem?_getD, List.getElem?_map, List.getElem?_range hi]; rfl
  rw [h1]
  have h2 := Sx.val_odd (bs a.data.toList) (bs b.data.toList) (fun i hi => by simp [bs]; omega) (Sx.polyOf b.data.toList) (hval b hb) 128 (Nat.le_refl _)
  rw [hval a ha] at h2
  exact h2
end PSum
end Go.Proofs.Ytieooonobjkglaa
namespace Go.Proofs.Ytieooonobjkglaa
open Go.RowKit Go.Proofs.YtieooonobjkglaaW.PrintWords Go.Proofs.YtieooonobjkglaaW.PrintLast Go.Proofs.YtieooonobjkglaaW.PrintMore SW
namespace PSum
open Rf
set_option maxRecDepth 100000
theorem add_l (a b : List UInt8) : (⟨a.toArray⟩ : ByteArray) ++ ⟨b.toArray⟩ = ⟨(a ++ b).toArray⟩ := by
  apply ByteArray.ext
  simp
theorem ext_l (l : List UInt8) (i j : Nat) : (⟨l.toArray⟩ : ByteArray).extract i j = ⟨((l.take j).drop i).toArray⟩ := by
  apply ByteArray.ext
  simp [List.drop_take]
theorem nums_zero : strOfNums [0] = ⟨([0] : List UInt8).toArray⟩ := by
  have := str_nums [0]
  exact this
def padded (l : List UInt8) (m : Nat) : List UInt8 := l ++ List.replicate m 0
theorem padded_getD (l : List UInt8) (m i : Nat) : (padded l m).getD i 0 = l.getD i 0 := by
  unfold padded
  rw [List.getD_eq_getElem?_getD, List.getD_eq_getElem?_getD]
  by_cases h : i < l.length
  · rw [List.getElem?_append_left h]
  · rw [List.getElem?_append_right (by omega), List.getElem?_eq_none (l := l) (by omega), List.getElem?_replicate]
    split <;> rfl
theorem piece (l : List UInt8) (m k : Nat) (h : 16 * k + 16 ≤ (padded l m).length) : ((padded l m).take (16 * k + 16)).drop (16 * k) = Sx.chunk l k := by
  rw [Sx.chunk_eq]
  apply List.ext_getElem?
  intro r
  by_cases hr : r < 16
  · rw [List.getElem?_drop, List.getElem?_take_of_lt (by omega), List.getElem?_map, List.getElem?_range hr, Option.map_some, ← padded_getD l m, List.getD_eq_getElem?_getD, List.getElem?_eq_getElem (by omega)]
    rfl
  · rw [List.getElem?_eq_none (by rw [List.length_drop, List.length_take]; omega), List.getElem?_eq_none (by simp; omega)]
theorem filled_ev (s : ByteArray) (hs : s.size ≤ 1000000) : Ev (fun n => saltusref07_filled.f n s) (Sx.chunks s.data.toList) := by
  obtain ⟨l, rfl, hl⟩ : ∃ l : List UInt8, s = ⟨l.toArray⟩ ∧ l.length ≤ 1000000 := ⟨s.data.toList, rfl, by simpa using hs⟩
  show Ev _ (Sx.chunks l)
  have cut : ∀ m, (padded l m).length = l.length + m := fun m => by simp [padded]
  have loop : ∀ m, m < 16 → (l.length + m) % 16 = 0 → ∀ j k, k + j = (l.length + m) / 16 → Ev (fun n => saltusref07_filled.l1 n ⟨(padded l m).toArray⟩ ((List.range k).map fun k => ⟨(Sx.chunk l k).toArray⟩) ((16 * k : Nat) : Int)) (Sx.chunks l) := by
    intro m hm hmod j
    induction j with
    | zero =>
      intro k hk
      refine Ev.step (f := fun _ => some ((List.range k).map fun k => ⟨(Sx.chunk l k).toArray⟩)) (fun n => ?_) ?_
      · simp only [saltusref07_filled.l1]; rw [if_neg (by rw [ba_size, cut]; omega)]
      · unfold Sx.chunks
        rw [show (l.length + 15) / 16 = k by omega]
        exact Ev.now _
    | succ j ih =>
      intro k hk
      have hw : wrap64 (((16 * k : Nat) : Int) + 16) = ((16 * k + 16 : Nat) : Int) := w_add (16 * k) 16 (by omega)
      have hst : ((List.range (k + 1)).map fun k => (⟨(Sx.chunk l k).toArray⟩ : ByteArray)) = ((List.range k).map fun k => (⟨(Sx.chunk l k).toArray⟩ : ByteArray)) ++ [⟨(Sx.chunk l k).toArray⟩] := by rw [List.range_succ]; simp
      refine Ev.step (f := fun n => saltusref07_filled.l1 n ⟨(padded l m).toArray⟩ ((List.range (k + 1)).map fun k => ⟨(Sx.chunk l k).toArray⟩) ((16 * (k + 1) : Nat) : Int)) (fun n => ?_) (ih (k + 1) (by omega))
      simp only [saltusref07_filled.l1]
      rw [if_pos (by rw [ba_size, cut]; omega), if_pos (by omega), hw, if_pos (by omega), if_pos (by rw [ba_size, cut]; omega), if_pos (by simp; omega), hst, show (((16 * k : Nat) : Int)).toNat = 16 * k by omega, show (((16 * k + 16 : Nat) : Int)).toNat = 16 * k + 16 by omega, ext_l, piece l m k (by rw [cut]; omega)]
      rfl
  have pad : ∀ j m, m + j < 16 → (l.length + (m + j)) % 16 = 0 → Ev (fun n => saltusref07_filled.l0 n ⟨(padded l m).toArray⟩) (Sx.chunks l) := by
    intro j
    induction j with
    | zero =>
      intro m hm hmod
      refine Ev.step (f := fun n => saltusref07_filled.l1 n ⟨(padded l m).toArray⟩ ((List.range 0).map fun k => ⟨(Sx.chunk l k).toArray⟩) ((16 * 0 : Nat) : Int)) (fun n => ?_) (loop m (by omega) hmod _ 0 (Nat.zero_add _))
      simp only [saltusref07_filled.l0]
      rw [if_pos (by rw [ba_size, cut]; omega)]
      rfl
    | succ j ih =>
      intro m hm hmod
      have hp : (⟨(padded l m).toArray⟩ : ByteArray) ++ strOfNums [0] = ⟨(padded l (m + 1)).toArray⟩ := by
        rw [nums_zero, add_l]
        unfold padded
        rw [List.append_assoc, ← List.replicate_succ']
      refine Ev.step (f := fun n => saltusref07_filled.l0 n ⟨(padded l (m + 1)).toArray⟩) (fun n => ?_) (ih (m + 1) (by omega) (by rw [show m + 1 + j = m + (j + 1) by omega]; exact hmod))
      simp only [saltusref07_filled.l0, Option.bind_some]
      rw [if_neg (by rw [ba_size, cut]; omega), if_pos (by rw [ba_size, cut, nums_zero, ba_size]; simp; omega), hp]
  have := pad ((16 - l.length % 16) % 16) 0 (by omega) (by omega)
  rwa [show padded l 0 = l by simp [padded]] at this
theorem u64_nat (n : Nat) (h : n < 18446744073709551616) : IntKind.u64.wrap (n : Int) = (n : Int) := by
  simp only [IntKind.wrap, IntKind.bits, IntKind.signed]
  simp
  omega
theorem high_ev (x : Nat) (hx : x < 18446744073709551616) : Ev (fun n => saltusref07_high.f n (x : Int)) ⟨(Sx.nums (UInt64.ofNat x)).toArray⟩ := by
  have hu : (UInt64.ofNat x).toNat = x := by rw [UInt64.toNat_ofNat']; exact Nat.mod_eq_of_lt hx
  have hnl : (Sx.nums (UInt64.ofNat x)).length = 8 := Sx.nums_length _
  have key : ∀ j k, k + j = 8 → Ev (fun n => saltusref07_high.l0 n ((x / 256 ^ k : Nat) : Int) ⟨((Sx.nums (UInt64.ofNat x)).drop (8 - k)).toArray⟩ (k : Int)) ⟨(Sx.nums (UInt64.ofNat x)).toArray⟩ := by
    intro j
    induction j with
    | zero =>
      intro k hk
      obtain rfl : k = 8 := by omega
      refine Ev.step (f := fun _ => some ⟨((Sx.nums (UInt64.ofNat x)).drop (8 - 8)).toArray⟩) (fun n => ?_) (Ev.now _)
      simp only [saltusref07_high.l0]; rw [if_neg (by omega)]
    | succ j ih =>
      intro k hk
      have hle : x / 256 ^ k ≤ x := Nat.div_le_self _ _
      have hdd : x / 256 ^ k / 256 = x / 256 ^ (k + 1) := by rw [Nat.div_div_eq_div_mul, ← Nat.pow_succ]
      have hb : Sx.num (UInt64.ofNat x) (7 - k) = UInt8.ofNat (x / 256 ^ k % 256) := by
        apply UInt8.toNat_inj.1
        rw [Sx.num_toNat _ _ (by omega), hu, show 56 - 8 * (7 - k) = 8 * k by omega, Nat.pow_mul, UInt8.toNat_ofNat', show (2 ^ 8 : Nat) = 256 from rfl]
        omega
      have hdrop : (Sx.nums (UInt64.ofNat x)).drop (8 - (k + 1)) = UInt8.ofNat (x / 256 ^ k % 256) :: (Sx.nums (UInt64.ofNat x)).drop (8 - k) := by
        have h7 : 7 - k < (Sx.nums (UInt64.ofNat x)).length := by omega
        have h8 : (Sx.nums (UInt64.ofNat x))[7 - k] = Sx.num (UInt64.ofNat x) (7 - k) := by simp [Sx.nums]
        rw [show 8 - (k + 1) = 7 - k by omega, List.drop_eq_getElem_cons h7, ← hb, h8, show 7 - k + 1 = 8 - k by omega]
      generalize hy : x / 256 ^ k = y at hle hdd hdrop
      have hs : strOfNums [Int.tmod (y : Int) 256 % 256] = ⟨([UInt8.ofNat (y % 256)] : List UInt8).toArray⟩ := by
        rw [Int.tmod_eq_emod_of_nonneg (by omega), ← str_nums]
        simp only [nums8, List.map_cons, List.map_nil, UInt8.toNat_ofNat']
        congr 2 <;> omega
      have hw : IntKind.u64.wrap (Int.tdiv (y : Int) 256) = ((x / 256 ^ (k + 1) : Nat) : Int) := by
        rw [Int.tdiv_eq_ediv_of_nonneg (by omega), ← hdd]
        exact u64_nat (y / 256) (by omega)
      refine Ev.step (f := fun n => saltusref07_high.l0 n ((x / 256 ^ (k + 1) : Nat) : Int) ⟨((Sx.nums (UInt64.ofNat x)).drop (8 - (k + 1))).toArray⟩ ((k + 1 : Nat) : Int)) (fun n => ?_) (ih (k + 1) (by omega))
      simp only [saltusref07_high.l0, Option.bind_some]
      rw [if_pos (by omega), hs, hw, if_pos (by rw [ba_size, ba_size, List.length_drop, hnl]; simp; omega), add_l, hdrop, one_cast, w_add k 1 (by omega)]
      rfl
  have := key 8 0 rfl
  rw [Nat.pow_zero, Nat.div_one, show (Sx.nums (UInt64.ofNat x)).drop (8 - 0) = [] by rw [List.drop_of_length_le (by omega)]] at this
  exact this
theorem blocks_ev (a b : ByteArray) (ha : a.size ≤ 100000) (hb : b.size ≤ 100000) : Ev (fun n => saltusref07_Blocks.f n a b) (Sx.blocks a.data.toList b.data.toList) := by
  have hla : a.data.toList.length = a.size := by simp
  have hlb : b.data.toList.length = b.size := by simp
  have hc : ∀ l : List UInt8, (Sx.chunks l).length = (l.length + 15) / 16 := fun l => by simp [Sx.chunks]
  have hw : ∀ n : Nat, n ≤ 100000 → IntKind.u64.wrap (8 * IntKind.u64.wrap (n : Int)) = ((8 * n : Nat) : Int) := fun n hn => by
    rw [u64_nat n (by omega)]
    exact u64_nat (8 * n) (by omega)
  refine Ev.bind (filled_ev a (by omega)) ?_
  refine Ev.bind (filled_ev b (by omega)) ?_
  refine Ev.congr (f := fun n => (saltusref07_high.f n ((8 * a.size : Nat) : Int)).bind fun t => (saltusref07_high.f n ((8 * b.size : Nat) : Int)).bind fun u => if t.size + u.size ≤ 9223372036854775807 then (if (Sx.chunks a.data.toList ++ Sx.chunks b.data.toList).length < 8796093022208 then some (Sx.chunks a.data.toList ++ Sx.chunks b.data.toList ++ [t ++ u]) else none) else none) (fun n => ?_) ?_
  · rw [if_pos (by rw [hc, hc]; omega), hw _ ha, hw _ hb]
    rfl
  · refine Ev.bind (high_ev _ (by omega)) ?_
    refine Ev.bind (high_ev _ (by omega)) ?_
    refine Ev.congr (f := fun _ => some (Sx.blocks a.data.toList b.data.toList)) (fun n => ?_) (Ev.now _)
    rw [if_pos (by simp only [ba_size, Sx.nums_length]; omega), if_pos (by rw [List.length_append, hc, hc]; omega), add_l]
    unfold Sx.blocks Sx.sizes
    rw [hla, hlb]
theorem rbit_xor (a b : List UInt8) (ha : a.length = 16) (i : Nat) (hi : i < 128) : Sx.rbit (Sx.xorL a b) i = (Sx.rbit a i ^^ Sx.rbit b i) := by
  unfold Sx.rbit
  rw [Sx.getD_xorL a b _ (by omega), ← Sx.tb, ← Sx.tb, ← Sx.tb, UInt8.toNat_xor, Nat.testBit_xor]
theorem polyOf_xor (a b : List UInt8) (ha : a.length = 16) (hb : b.length = 16) : Sx.polyOf (Sx.xorL a b) = Sx.pxor (Sx.polyOf a) (Sx.polyOf b) := by
  refine Sx.poly_ext fun i hi => ?_
  rw [Sx.bit_xor, Sx.poly_bit _ (by rw [Sx.xorL_length, ha]) i hi, Sx.poly_bit _ ha i hi, Sx.poly_bit _ hb i hi, rbit_xor a b ha i hi]
theorem sum_ev (h a s : ByteArray) (hh : h.size = 16) (ha : a.size ≤ 100000) (hs : s.size ≤ 100000) : Ev (fun n => saltusref07_Sum.f n h a s) ⟨(Sx.sum h.data.toList a.data.toList s.data.toList).toArray⟩ := by
  refine Ev.bind (blocks_ev a s ha hs) ?_
  have hbs := Sx.blocks_size a.data.toList s.data.toList
  have hbl : (Sx.blocks a.data.toList s.data.toList).length ≤ 1000000 := by simp [Sx.blocks, Sx.chunks]; omega
  unfold Sx.sum
  generalize Sx.blocks a.data.toList s.data.toList = bl at hbs hbl
  have key : ∀ j k, k + j = bl.length → Ev (fun n => saltusref07_Sum.l0 n h ⟨(Sx.polyBlock (Sx.sumOf (Sx.polyOf h.data.toList) (bl.take k))).toArray⟩ bl (bl.length : Int) (k : Int)) ⟨(Sx.polyBlock (Sx.sumOf (Sx.polyOf h.data.toList) bl)).toArray⟩ := by
    intro j
    induction j with
    | zero =>
      intro k hk
      obtain rfl : k = bl.length := by omega
      refine Ev.step (f := fun _ => some ⟨(Sx.polyBlock (Sx.sumOf (Sx.polyOf h.data.toList) bl)).toArray⟩) (fun n => ?_) (Ev.now _)
      simp only [saltusref07_Sum.l0]
      rw [if_neg (by omega), List.take_length]
    | succ j ih =>
      intro k hk
      have hkl : k < bl.length := by omega
      have hck : bl[k]? = some bl[k] := List.getElem?_eq_getElem hkl
      have hb16 := hbs _ (List.getElem_mem hkl)
      have hrd : rdOf ByteArray.empty bl (k : Int) = bl[k] := by
        unfold rdOf
        rw [show (k : Int).toNat = k by omega, List.getD_eq_getElem?_getD, hck]; rfl
      have hst := Sx.sumOf_succ (Sx.polyOf h.data.toList) bl k _ hck
      have hih := ih (k + 1) (by omega)
      rw [hst] at hih
      generalize Sx.sumOf (Sx.polyOf h.data.toList) (bl.take k) = p at hih
      generalize bl[k] = b at hb16 hrd hih
      refine Ev.step (f := fun n => (saltusref07_Xor.f n ⟨(Sx.polyBlock p).toArray⟩ b).bind fun t => (saltusref07_Mul.f n t h).bind fun u => saltusref07_Sum.l0 n h u bl (bl.length : Int) ((k + 1 : Nat) : Int)) (fun n => ?_) ?_
      · simp only [saltusref07_Sum.l0]
        rw [if_pos (by omega), if_pos (by omega), if_pos (by omega), hrd, one_cast, w_add k 1 (by omega)]
      · have hpl : (Sx.polyBlock p).length = 16 := Sx.polyBlock_length p
        refine Ev.bind (xor_ev ⟨(Sx.polyBlock p).toArray⟩ b (by rw [ba_size, hpl, hb16]; exact Nat.le_refl _) (by rw [ba_size]; omega)) ?_
        refine Ev.bind (mul_ev ⟨(Sx.xorL (Sx.polyBlock p) b.data.toList).toArray⟩ h (by rw [ba_size, Sx.xorL_length, hpl]) hh) ?_
        show Ev (fun n => saltusref07_Sum.l0 n h ⟨(Sx.polyBlock (Sx.times (Sx.polyOf (Sx.xorL (Sx.polyBlock p) b.data.toList)) (Sx.polyOf h.data.toList))).toArray⟩ bl (bl.length : Int) ((k + 1 : Nat) : Int)) _
        rw [polyOf_xor _ _ hpl (by simpa using hb16), Sx.of_block]
        exact hih
  have h0 : strOfNums [0, 0, 0, 0, 0, 0, 0, 0, 0, 0, 0, 0, 0, 0, 0, 0] = ⟨(Sx.polyBlock (Sx.sumOf (Sx.polyOf h.data.toList) (bl.take 0))).toArray⟩ := by
    have := str_nums (List.replicate 16 0)
    have hz : Sx.polyBlock (Sx.sumOf (Sx.polyOf h.data.toList) (bl.take 0)) = List.replicate 16 0 := by
      show Sx.polyBlock (0, 0) = _
      decide +kernel
    rw [hz]
    exact this
  rw [h0]
  exact key bl.length 0 (by omega)
end PSum
end Go.Proofs.Ytieooonobjkglaa
