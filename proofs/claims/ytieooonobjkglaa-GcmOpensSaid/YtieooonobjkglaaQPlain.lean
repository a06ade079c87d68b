/- What GCM's stage theorem wants: a text with one bit turned has another tag; what is xor-ed twice is what it was. No condition; no program in sight. -/
import Derived.Test.YtieooonobjkglaaQGcm
import Derived.Test.YtieooonobjkglaaQPure
namespace Go.Proofs.Ytieooonobjkglaa
open Go Go.Proofs SW
namespace Sx
/-! ### Words and bytes -/
theorem or_byte (n : UInt64) (c : UInt8) (x : Nat) (hn : n.toNat = x) (h : x < 72057594037927936) : ((n <<< 8) ||| c.toUInt64).toNat = x * 256 + c.toNat := by
  subst hn
  have e : (8 : UInt64).toNat % 64 = 8 := rfl
  have hc := c.toNat_lt
  rw [UInt64.toNat_or, UInt64.toNat_shiftLeft, e, UInt8.toNat_toUInt64, Nat.shiftLeft_eq, Nat.mod_eq_of_lt (by omega)]
  rw [show n.toNat * 2 ^ 8 = n.toNat <<< 8 by rw [Nat.shiftLeft_eq], ← Nat.shiftLeft_add_eq_or_of_lt (by omega), Nat.shiftLeft_eq]
theorem word8 (a b c d e f g h : UInt8) : (word [a, b, c, d, e, f, g, h]).toNat = ((((((a.toNat * 256 + b.toNat) * 256 + c.toNat) * 256 + d.toNat) * 256 + e.toNat) * 256 + f.toNat) * 256 + g.toNat) * 256 + h.toNat := by
  have la := a.toNat_lt; have lb := b.toNat_lt; have lc := c.toNat_lt; have ld := d.toNat_lt; have le := e.toNat_lt; have lf := f.toNat_lt; have lg := g.toNat_lt
  have s1 := or_byte 0 a 0 rfl (by omega)
  have s2 := or_byte _ b _ s1 (by omega)
  have s3 := or_byte _ c _ s2 (by omega)
  have s4 := or_byte _ d _ s3 (by omega)
  have s5 := or_byte _ e _ s4 (by omega)
  have s6 := or_byte _ f _ s5 (by omega)
  have s7 := or_byte _ g _ s6 (by omega)
  have s8 := or_byte _ h _ s7 (by omega)
  rw [Nat.zero_mul, Nat.zero_add] at s8
  exact s8
theorem num_toNat (n : UInt64) (i : Nat) (hi : i < 8) : (num n i).toNat = n.toNat / 2 ^ (56 - 8 * i) % 256 := by
  unfold num
  have e : (UInt64.ofNat (56 - 8 * i)).toNat % 64 = 56 - 8 * i := by rw [UInt64.toNat_ofNat']; omega
  rw [UInt64.toNat_toUInt8, UInt64.toNat_shiftRight, e, Nat.shiftRight_eq_div_pow]
theorem nums_eq (n : UInt64) : nums n = [num n 0, num n 1, num n 2, num n 3, num n 4, num n 5, num n 6, num n 7] := rfl
theorem nums_word8 (a b c d e f g h : UInt8) : nums (word [a, b, c, d, e, f, g, h]) = [a, b, c, d, e, f, g, h] := by
  have hw := word8 a b c d e f g h
  have la := a.toNat_lt; have lb := b.toNat_lt; have lc := c.toNat_lt; have ld := d.toNat_lt; have le := e.toNat_lt; have lf := f.toNat_lt; have lg := g.toNat_lt; have lh := h.toNat_lt
  generalize word [a, b, c, d, e, f, g, h] = n at hw
  rw [nums_eq]
  have k : ∀ (i : Nat) (x : UInt8), i < 8 → n.toNat / 2 ^ (56 - 8 * i) % 256 = x.toNat → num n i = x := fun i x hi hx => UInt8.toNat_inj.1 ((num_toNat n i hi).trans hx)
  rw [k 0 a (by omega) (by omega), k 1 b (by omega) (by omega), k 2 c (by omega) (by omega), k 3 d (by omega) (by omega), k 4 e (by omega) (by omega), k 5 f (by omega) (by omega), k 6 g (by omega) (by omega), k 7 h (by omega) (by omega)]
theorem word_nums (n : UInt64) : word (nums n) = n := by
  rw [nums_eq]
  apply UInt64.toNat_inj.1
  rw [word8, num_toNat n 0 (by omega), num_toNat n 1 (by omega), num_toNat n 2 (by omega), num_toNat n 3 (by omega), num_toNat n 4 (by omega), num_toNat n 5 (by omega), num_toNat n 6 (by omega), num_toNat n 7 (by omega)]
  have := n.toNat_lt
  simp only [Nat.reduceMul, Nat.reduceSub, Nat.reducePow]
  omega
theorem word_take (l : List UInt8) : word l = word (l.take 8) := by unfold word; rw [List.take_take, Nat.min_self]
theorem eight {l : List UInt8} (h : l.length = 8) : ∃ a b c d e f g i, l = [a, b, c, d, e, f, g, i] := by
  match l, h with
  | [a, b, c, d, e, f, g, i], _ => exact ⟨a, b, c, d, e, f, g, i, rfl⟩
theorem nums_word (l : List UInt8) (h : 8 ≤ l.length) : nums (word l) = l.take 8 := by
  rw [word_take]
  obtain ⟨a, b, c, d, e, f, g, i, hl⟩ := eight (l := l.take 8) (by rw [List.length_take]; omega)
  rw [hl, nums_word8]
theorem block_of (l : List UInt8) (h : l.length = 16) : polyBlock (polyOf l) = l := by
  unfold polyBlock polyOf
  simp only
  rw [nums_word l (by omega), nums_word (l.drop 8) (by rw [List.length_drop]; omega), List.take_of_length_le (i := 8) (l := l.drop 8) (by rw [List.length_drop]; omega), List.take_append_drop]
theorem of_block (p : Poly) : polyOf (polyBlock p) = p := by
  unfold polyBlock polyOf
  have h1 : (nums p.1 ++ nums p.2).take 8 = nums p.1 := by rw [List.take_append_of_le_length (by simp [nums_length]), List.take_of_length_le (by simp [nums_length])]
  have h2 : (nums p.1 ++ nums p.2).drop 8 = nums p.2 := by rw [List.drop_append_of_le_length (by simp [nums_length]), List.drop_of_length_le (by simp [nums_length]), List.nil_append]
  rw [word_take, h1, h2, word_nums, word_nums]
theorem of_inj {a b : List UInt8} (ha : a.length = 16) (hb : b.length = 16) (h : polyOf a = polyOf b) : a = b := by rw [← block_of a ha, h, block_of b hb]
theorem block_inj {p q : Poly} (h : polyBlock p = polyBlock q) : p = q := by rw [← of_block p, h, of_block]
/-! ### Sums of blocks -/
def sumFrom (q o : Poly) (l : List ByteArray) : Poly := l.foldl (fun o b => times (pxor o (polyOf b.data.toList)) q) o
theorem sumOf_eq (q : Poly) (l : List ByteArray) : sumOf q l = sumFrom q (0, 0) l := rfl
theorem sumFrom_inj {q : Poly} (hq : q ≠ (0, 0)) (l : List ByteArray) : ∀ {o o' : Poly}, sumFrom q o l = sumFrom q o' l → o = o' := by
  induction l with
  | nil => intro o o' h; exact h
  | cons b l ih =>
    intro o o' h
    have h1 := times_inj hq (ih (o := times (pxor o (polyOf b.data.toList)) q) (o' := times (pxor o' (polyOf b.data.toList)) q) h)
    rw [px_comm o, px_comm o'] at h1
    exact px_left h1
theorem sum_differs {q : Poly} (hq : q ≠ (0, 0)) (A B : List ByteArray) (b b' : ByteArray) (h : polyOf b.data.toList ≠ polyOf b'.data.toList) : sumOf q (A ++ b :: B) ≠ sumOf q (A ++ b' :: B) := by
  rw [sumOf_eq, sumOf_eq]
  unfold sumFrom
  rw [List.foldl_append, List.foldl_append, List.foldl_cons, List.foldl_cons]
  intro e
  exact h (px_left (times_inj hq (sumFrom_inj hq B e)))
/-! ### A text's blocks -/
theorem chunk_eq (s : List UInt8) (k : Nat) : chunk s k = (List.range 16).map fun r => s.getD (16 * k + r) 0 := by
  apply List.ext_getElem?
  intro r
  have hl : ((s.drop (16 * k)).take 16).length = min 16 (s.length - 16 * k) := by rw [List.length_take, List.length_drop]
  unfold chunk
  by_cases h : r < 16
  · rw [List.getElem?_map, List.getElem?_range h, Option.map_some]
    by_cases hr : 16 * k + r < s.length
    · rw [List.getElem?_append_left (by omega), List.getElem?_take_of_lt h, List.getElem?_drop, List.getElem?_eq_getElem hr]
      simp [hr]
    · rw [List.getElem?_append_right (by omega), List.getElem?_replicate, if_pos (by omega)]
      simp [List.getD_eq_getElem?_getD, List.getElem?_eq_none (Nat.le_of_not_lt hr)]
  · rw [List.getElem?_eq_none (by rw [List.length_append, List.length_replicate]; omega), List.getElem?_eq_none (by simp; omega)]
theorem chunk_length (s : List UInt8) (k : Nat) : (chunk s k).length = 16 := by rw [chunk_eq]; simp
theorem getD_set (s : List UInt8) (i j : Nat) (x : UInt8) (hi : i < s.length) : (s.set i x).getD j 0 = if j = i then x else s.getD j 0 := by
  rw [List.getD_eq_getElem?_getD, List.getElem?_set]
  by_cases h : i = j
  · subst h; simp [hi]
  · rw [if_neg h, if_neg (fun e => h e.symm), List.getD_eq_getElem?_getD]
theorem chunk_other (s : List UInt8) (i k : Nat) (x : UInt8) (hi : i < s.length) (hk : i / 16 ≠ k) : chunk (s.set i x) k = chunk s k := by
  rw [chunk_eq, chunk_eq]
  apply List.map_congr_left
  intro r hr
  have : r < 16 := List.mem_range.1 hr
  rw [getD_set s i _ x hi, if_neg (by omega)]
theorem chunk_differs (s : List UInt8) (i : Nat) (x : UInt8) (hi : i < s.length) (hx : x ≠ s.getD i 0) : chunk (s.set i x) (i / 16) ≠ chunk s (i / 16) := by
  rw [chunk_eq, chunk_eq]
  intro e
  have h := congrArg (fun l => l[i % 16]?) e
  simp only [List.getElem?_map, List.getElem?_range (Nat.mod_lt i (by omega : 16 > 0)), Option.map_some, Option.some.injEq] at h
  rw [show 16 * (i / 16) + i % 16 = i by omega, getD_set s i i x hi, if_pos rfl] at h
  exact hx h
theorem chunks_set (s : List UInt8) (i : Nat) (x : UInt8) (hi : i < s.length) :
    chunks (s.set i x) = (chunks s).take (i / 16) ++ ⟨(chunk (s.set i x) (i / 16)).toArray⟩ :: (chunks s).drop (i / 16 + 1) ∧
    chunks s = (chunks s).take (i / 16) ++ ⟨(chunk s (i / 16)).toArray⟩ :: (chunks s).drop (i / 16 + 1) := by
  have hlen : (chunks s).length = (s.length + 15) / 16 := by simp [chunks]
  have hj : i / 16 < (chunks s).length := by omega
  have hget : ∀ (t : List UInt8) (k : Nat), k < (t.length + 15) / 16 → (chunks t)[k]? = some ⟨(chunk t k).toArray⟩ := fun t k hk => by
    unfold chunks; rw [List.getElem?_map, List.getElem?_range hk]; rfl
  have e : chunks (s.set i x) = (chunks s).set (i / 16) ⟨(chunk (s.set i x) (i / 16)).toArray⟩ := by
    apply List.ext_getElem?
    intro k
    by_cases hk : k < (s.length + 15) / 16
    · rw [hget _ k (by simpa using hk), List.getElem?_set]
      by_cases h : i / 16 = k
      · subst h; simp [hj]
      · rw [if_neg h, hget s k hk, chunk_other s i k x hi h]
    · rw [List.getElem?_eq_none (by simp [chunks]; omega), List.getElem?_eq_none (by simp [chunks]; omega)]
  refine ⟨?_, ?_⟩
  · rw [e, List.set_eq_take_append_cons_drop, if_pos hj]
  · have h0 : (chunks s)[i / 16]? = some ⟨(chunk s (i / 16)).toArray⟩ := hget s _ (by omega)
    have h1 := List.getElem?_eq_some_iff.1 h0
    rw [← h1.2, ← List.drop_eq_getElem_cons, List.take_append_drop]
theorem sum_turned (hk head s : List UInt8) (hq : polyOf hk ≠ (0, 0)) (i : Nat) (hi : i < s.length) (x : UInt8) (hx : x ≠ s.getD i 0) : sum hk head (s.set i x) ≠ sum hk head s := by
  unfold sum
  intro e
  have e := block_inj e
  obtain ⟨e1, e2⟩ := chunks_set s i x hi
  have hsz : sizes head (s.set i x) = sizes head s := by unfold sizes; rw [List.length_set]
  unfold blocks at e
  rw [hsz, e1] at e
  rw [show chunks head ++ chunks s = chunks head ++ ((chunks s).take (i / 16) ++ ⟨(chunk s (i / 16)).toArray⟩ :: (chunks s).drop (i / 16 + 1)) by rw [← e2]] at e
  simp only [List.append_assoc, List.cons_append] at e
  rw [← List.append_assoc (chunks head), ← List.append_assoc (chunks head)] at e
  exact sum_differs hq _ _ _ _ (fun h => chunk_differs s i x hi hx (of_inj (chunk_length _ _) (chunk_length _ _) h)) e
/-! ### Xor -/
theorem xor_back (a b : UInt8) : a ^^^ b ^^^ b = a := by rw [UInt8.xor_assoc, UInt8.xor_self, UInt8.xor_zero]
theorem getD_xorL (s m : List UInt8) (j : Nat) (hj : j < s.length) : (xorL s m).getD j 0 = s.getD j 0 ^^^ m.getD j 0 := by
  unfold xorL
  rw [List.getD_eq_getElem?_getD, List.getElem?_map, List.getElem?_range hj]
  rfl
theorem list_getD {a b : List UInt8} (hl : a.length = b.length) (h : ∀ j, j < a.length → a.getD j 0 = b.getD j 0) : a = b := by
  apply List.ext_getElem hl
  intro j h1 h2
  have := h j h1
  simpa [h1, h2] using this
theorem xorL_back (s m : List UInt8) : xorL (xorL s m) m = s := by
  refine list_getD (by rw [xorL_length, xorL_length]) fun j hj => ?_
  rw [xorL_length, xorL_length] at hj
  rw [getD_xorL _ _ _ (by rw [xorL_length]; exact hj), getD_xorL _ _ _ hj, xor_back]
theorem xorL_inj {a b m : List UInt8} (h : xorL a m = xorL b m) : a = b := by rw [← xorL_back a m, h, xorL_back]
/-! ### The tag -/
theorem tag_turned (kk : Nat) (key nonce head s : List UInt8) (hq : hkey kk key ≠ List.replicate 16 0) (i : Nat) (hi : i < s.length) (x : UInt8) (hx : x ≠ s.getD i 0) :
    tag kk key nonce head (s.set i x) ≠ tag kk key nonce head s := by
  unfold tag
  intro e
  refine sum_turned _ head s ?_ i hi x hx (xorL_inj e)
  intro h0
  apply hq
  have : hkey kk key = polyBlock (0, 0) := by rw [← h0, block_of (hkey kk key) (aes_length _ _ _)]
  rw [this]
  decide +kernel
/-- A sealed text, one byte of it turned, has another tag. -/
theorem seal_turned (kk : Nat) (key nonce head text : List UInt8) (hq : hkey kk key ≠ List.replicate 16 0) (i : Nat) (hi : i < text.length + 16) (x : UInt8) (hx : x ≠ (sealOf kk key nonce head text).getD i 0) :
    tag kk key nonce head (((sealOf kk key nonce head text).set i x).take text.length) ≠ ((sealOf kk key nonce head text).set i x).drop text.length := by
  have hcl : (xorL text (stream kk key nonce 2 text.length)).length = text.length := xorL_length _ _
  have hs : sealOf kk key nonce head text = xorL text (stream kk key nonce 2 text.length) ++ tag kk key nonce head (xorL text (stream kk key nonce 2 text.length)) := rfl
  rw [hs] at hx ⊢
  generalize xorL text (stream kk key nonce 2 text.length) = c at *
  have htl := tag_length kk key nonce head c
  by_cases h : i < text.length
  · rw [List.set_append_left _ _ (by omega), List.take_append_of_le_length (by simp; omega), List.drop_append_of_le_length (by simp; omega), List.take_of_length_le (by simp; omega), List.drop_of_length_le (by simp; omega), List.nil_append]
    refine tag_turned kk key nonce head c hq i (by omega) x ?_
    intro e
    apply hx
    rw [e, List.getD_eq_getElem?_getD, List.getD_eq_getElem?_getD, List.getElem?_append_left (by omega)]
  · rw [List.set_append_right _ _ (by omega), List.take_append_of_le_length (by omega), List.drop_append_of_le_length (by omega), List.take_of_length_le (by omega), List.drop_of_length_le (by omega), List.nil_append]
    intro e
    apply hx
    have h1 : (tag kk key nonce head c).getD (i - c.length) 0 = ((tag kk key nonce head c).set (i - c.length) x).getD (i - c.length) 0 := congrArg (fun l => l.getD (i - c.length) 0) e
    rw [getD_set _ _ _ _ (by omega), if_pos rfl] at h1
    rw [← h1, List.getD_eq_getElem?_getD, List.getD_eq_getElem?_getD, List.getElem?_append_right (by omega)]
end Sx
end Go.Proofs.Ytieooonobjkglaa
namespace Go.Proofs.Ytieooonobjkglaa
open SW
namespace Sx
set_option maxRecDepth 100000
/-- The power p. -/
def E (p : Nat) : Poly := itr raised p one
theorem E_succ (p : Nat) : E (p + 1) = raised (E p) := rfl
theorem E_add (n p : Nat) : itr raised n (E p) = E (n + p) := itr_add raised n p one
theorem E_unit (k : Nat) (hk : k < 128) : E k = unit k := (unit_itr k hk).symm
theorem E128 : E 128 = pxor (pxor (pxor (E 0) (E 1)) (E 2)) (E 7) := by
  rw [E_unit 0 (by omega), E_unit 1 (by omega), E_unit 2 (by omega), E_unit 7 (by omega), show (128 : Nat) = 127 + 1 from rfl, E_succ, E_unit 127 (by omega)]
  decide +kernel
theorem E_fold (p : Nat) (hp : 128 ≤ p) : E p = pxor (pxor (pxor (E (p - 128)) (E (p - 127))) (E (p - 126))) (E (p - 121)) := by
  have h := congrArg (itr raised (p - 128)) E128
  rw [(itr_lin raised_lin _).add, (itr_lin raised_lin _).add, (itr_lin raised_lin _).add, E_add, E_add, E_add, E_add, E_add] at h
  rw [show p - 128 + 128 = p by omega, show p - 128 + 0 = p - 128 by omega, show p - 128 + 1 = p - 127 by omega, show p - 128 + 2 = p - 126 by omega, show p - 128 + 7 = p - 121 by omega] at h
  exact h
def on (b : Bool) (p : Poly) : Poly := if b then p else (0, 0)
theorem on_xor (a b : Bool) (p : Poly) : on (a ^^ b) p = pxor (on a p) (on b p) := by
  cases a <;> cases b <;> simp [on, px_self, px_zero, zero_px]
theorem on_lin' (b : Bool) {F : Poly → Poly} (h : Lin F) (p : Poly) : F (on b p) = on b (F p) := by cases b <;> simp [on, h.zero]
/-- The first n powers' sum. -/
def val (f : Nat → Bool) : Nat → Poly
  | 0 => (0, 0)
  | n + 1 => pxor (val f n) (on (f n) (E n))
theorem val_congr {f g : Nat → Bool} : ∀ n, (∀ i, i < n → f i = g i) → val f n = val g n
  | 0, _ => rfl
  | n + 1, h => by rw [val, val, val_congr n (fun i hi => h i (by omega)), h n (by omega)]
theorem val_xor (f g : Nat → Bool) : ∀ n, val (fun i => f i ^^ g i) n = pxor (val f n) (val g n)
  | 0 => (px_self _).symm
  | n + 1 => by rw [val, val, val, val_xor f g n, on_xor, px_four]
theorem val_none : ∀ n, val (fun _ => false) n = (0, 0)
  | 0 => rfl
  | n + 1 => by rw [val, val_none n]; exact px_zero _
theorem val_zero {f : Nat → Bool} (n : Nat) (h : ∀ i, i < n → f i = false) : val f n = (0, 0) := (val_congr n h).trans (val_none n)
/-- One place alone. -/
theorem val_one (j : Nat) : ∀ n, j < n → val (fun i => i == j) n = E j := by
  intro n
  induction n with
  | zero => intro h; omega
  | succ n ih =>
    intro h
    rw [val]
    by_cases e : j = n
    · subst e
      rw [val_zero j (fun i hi => by simp; omega)]
      simp [on, zero_px]
    · rw [ih (by omega)]
      have : (n == j) = false := by simp; omega
      rw [this]; simp [on, px_zero]
theorem val_flip (f : Nat → Bool) (j n : Nat) (hj : j < n) : val (fun i => f i ^^ (i == j)) n = pxor (val f n) (E j) := by rw [val_xor, val_one j n hj]
theorem bit_val (f : Nat → Bool) (n : Nat) (hn : n ≤ 128) (j : Nat) (hj : j < 128) : bit (val f n) j = (decide (j < n) && f j) := by
  induction n with
  | zero => simp [val, bit_zero]
  | succ n ih =>
    rw [val, bit_xor, ih (by omega)]
    by_cases e : j = n
    · subst e
      cases hb : f j
      · simp [on, bit_zero]
      · simp [on, E_unit j hj, bit_unit j hj j hj]
    · have hu : bit (on (f n) (E n)) j = false := by
        cases f n
        · exact bit_zero j
        · simp only [on, if_true]; rw [E_unit n (by omega), bit_unit n (by omega) j hj]; simpa using e
      rw [hu, show decide (j < n + 1) = decide (j < n) by rw [decide_eq_decide]; omega]
      simp
theorem val_bits (p : Poly) : val (fun i => bit p i) 128 = p := poly_ext fun j hj => by rw [bit_val _ 128 (by omega) j hj]; simp [hj]
/-- The shifted row. -/
theorem val_shift (b : Nat → Bool) (n : Nat) : ∀ m, val (fun p => decide (n ≤ p) && b (p - n)) (n + m) = itr raised n (val b m) := by
  intro m
  induction m with
  | zero =>
    rw [Nat.add_zero, val_zero n (fun i hi => by simp; omega)]
    exact (itr_lin raised_lin n).zero.symm
  | succ m ih =>
    rw [show n + (m + 1) = (n + m) + 1 by omega, val, ih, val, (itr_lin raised_lin n).add, on_lin' _ (itr_lin raised_lin n), E_add, show n + m - n = m by omega]
    congr 2
    simp
theorem val_more (b : Nat → Bool) (m : Nat) : ∀ k, (∀ i, m ≤ i → b i = false) → val b (m + k) = val b m := by
  intro k h
  induction k with
  | zero => rfl
  | succ k ih => rw [show m + (k + 1) = (m + k) + 1 by omega, val, ih, h _ (by omega)]; exact px_zero _
/-- How often the power p comes of the first n rows: odd or not. -/
def oddTo (a b : Nat → Bool) (p : Nat) : Nat → Bool
  | 0 => false
  | i + 1 => oddTo a b p i ^^ (decide (i ≤ p) && (a i && b (p - i)))
theorem val_odd (a b : Nat → Bool) (hb : ∀ i, 128 ≤ i → b i = false) (q : Poly) (hq : val b 128 = q) (n : Nat) (hn : n ≤ 128) : val (fun p => oddTo a b p n) 255 = times (val a n) q := by
  induction n with
  | zero => exact (val_zero 255 (fun _ _ => rfl)).trans (zero_times q).symm
  | succ n ih =>
    have e : (fun p => oddTo a b p (n + 1)) = fun p => oddTo a b p n ^^ (decide (n ≤ p) && (a n && b (p - n))) := rfl
    have hv : val a (n + 1) = pxor (val a n) (on (a n) (E n)) := rfl
    rw [e, val_xor, ih (by omega), hv, (times_left q).add]
    congr 1
    cases ha : a n
    · rw [val_zero 255 (fun _ _ => by simp)]
      exact (zero_times q).symm
    · have e2 : (fun p => decide (n ≤ p) && (true && b (p - n))) = fun p => decide (n ≤ p) && b (p - n) := by funext p; simp
      rw [e2, show 255 = n + (255 - n) by omega, val_shift b n (255 - n), show 255 - n = 128 + (127 - n) by omega, val_more b 128 _ hb, hq]
      simp only [on, if_true]
      rw [E_unit n (by omega), unit_times n (by omega)]
/-! ### Bits of a text -/
def rbit (l : List UInt8) (i : Nat) : Bool := (l.getD (i / 8) 0).toNat / 2 ^ (7 - i % 8) % 2 == 1
theorem div_mod_div (x a b : Nat) (hb : b < 8) : x / 2 ^ a % 256 / 2 ^ b % 2 = x / 2 ^ (a + b) % 2 := by
  rw [Nat.pow_add, ← Nat.div_div_eq_div_mul]
  generalize x / 2 ^ a = y
  match b, hb with
  | 0, _ => simp
  | 1, _ => simp; omega
  | 2, _ => simp; omega
  | 3, _ => simp; omega
  | 4, _ => simp; omega
  | 5, _ => simp; omega
  | 6, _ => simp; omega
  | 7, _ => simp; omega
theorem tb (x i : Nat) : x.testBit i = (x / 2 ^ i % 2 == 1) := by rw [Nat.testBit_eq_decide_div_mod_eq]; rfl
theorem word_bit (l : List UInt8) (hl : 8 ≤ l.length) (i : Nat) (hi : i < 64) : (word l).toNat.testBit (63 - i) = rbit l i := by
  have hn := nums_word l hl
  have hb : l.getD (i / 8) 0 = num (word l) (i / 8) := by
    have h1 : (nums (word l)).getD (i / 8) 0 = num (word l) (i / 8) := by
      unfold nums
      rw [List.getD_eq_getElem?_getD, List.getElem?_map, List.getElem?_range (by omega)]
      rfl
    rw [← h1, hn, List.getD_eq_getElem?_getD, List.getD_eq_getElem?_getD, List.getElem?_take_of_lt (by omega)]
  unfold rbit
  rw [hb, num_toNat _ _ (by omega), div_mod_div _ _ _ (by omega), tb, show 63 - i = 56 - 8 * (i / 8) + (7 - i % 8) by omega]
theorem poly_bit (l : List UInt8) (hl : l.length = 16) (i : Nat) (hi : i < 128) : bit (polyOf l) i = rbit l i := by
  by_cases h : i < 64
  · rw [bit_hi _ _ h]
    exact word_bit l (by omega) i h
  · rw [bit_lo _ _ (by omega) hi]
    have := word_bit (l.drop 8) (by rw [List.length_drop]; omega) (i - 64) (by omega)
    rw [show 63 - (i - 64) = 127 - i by omega] at this
    refine Eq.trans this ?_
    unfold rbit
    rw [show i / 8 = 8 + (i - 64) / 8 by omega, show (i - 64) % 8 = i % 8 by omega, List.getD_eq_getElem?_getD, List.getElem?_drop, ← List.getD_eq_getElem?_getD]
/-- A block of bits, as bytes. -/
theorem block_bits (l : List UInt8) (hl : l.length = 16) (p : Poly) (h : ∀ i, i < 128 → rbit l i = bit p i) : l = polyBlock p := by
  rw [← block_of l hl]
  congr 1
  exact poly_ext fun i hi => by rw [poly_bit l hl i hi, h i hi]
end Sx
end Go.Proofs.Ytieooonobjkglaa
