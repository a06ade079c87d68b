/- The field's and AES's functions as plain functions on bytes, as the program's text computes them. No condition; no program in sight. -/
import Derived.Test.YtieooonobjkglaaQB
namespace Go.Proofs.Ytieooonobjkglaa
namespace Sx

def tw (a : UInt8) : UInt8 := if a ≥ 128 then (a <<< 1) ^^^ 27 else a <<< 1
def mulL (b : UInt8) (a : UInt8) : Nat → UInt8 × UInt8
  | 0 => (a, 0)
  | k + 1 => (tw (mulL b a k).1, if (b >>> UInt8.ofNat k) &&& 1 == 1 then (mulL b a k).2 ^^^ (mulL b a k).1 else (mulL b a k).2)
def mul (a b : UInt8) : UInt8 := (mulL b a 8).2
def powL : Nat → UInt8 → UInt8 → Nat → UInt8
  | 0, out, _, _ => out
  | f + 1, out, a, n => if n = 0 then out else powL f (if n % 2 = 1 then mul out a else out) (mul a a) (n / 2)
def pow (a : UInt8) (n : Nat) : UInt8 := powL n 1 a n
def inv (a : UInt8) : UInt8 := pow a 254
def rotl (x : UInt8) (k : Nat) : UInt8 := (x <<< UInt8.ofNat k) ||| (x >>> UInt8.ofNat (8 - k))
def box (a : UInt8) : UInt8 := inv a ^^^ rotl (inv a) 1 ^^^ rotl (inv a) 2 ^^^ rotl (inv a) 3 ^^^ rotl (inv a) 4 ^^^ 99

theorem powL_more (f : Nat) : ∀ (g n : Nat) (out a : UInt8), n ≤ f → n ≤ g → powL f out a n = powL g out a n := by
  induction f with
  | zero =>
    intro g n out a h _
    obtain rfl : n = 0 := by omega
    cases g <;> simp [powL]
  | succ f ih =>
    intro g n out a h h'
    cases g with
    | zero => obtain rfl : n = 0 := by omega
              simp [powL]
    | succ g =>
      simp only [powL]
      by_cases e : n = 0
      · simp [e]
      · simp only [e, if_false]
        exact ih g (n / 2) _ _ (by omega) (by omega)
theorem powL_step (n : Nat) (out a : UInt8) (h : 0 < n) : powL n out a n = powL (n / 2) (if n % 2 = 1 then mul out a else out) (mul a a) (n / 2) := by
  obtain ⟨m, rfl⟩ : ∃ m, n = m + 1 := ⟨n - 1, by omega⟩
  rw [powL, if_neg (by omega)]
  exact powL_more _ _ _ _ _ (by omega) (by omega)
end Sx
end Go.Proofs.Ytieooonobjkglaa
namespace Go.Proofs.Ytieooonobjkglaa
namespace Sx

/-- A row of n that is written from its head on: f up to place k, g from there. -/
def gens {α : Type} (f g : Nat → α) (n k : Nat) : List α := (List.range n).map fun i => if i < k then f i else g i
theorem gens_length {α : Type} (f g : Nat → α) (n k : Nat) : (gens f g n k).length = n := by simp [gens]
theorem gens_get {α : Type} (f g : Nat → α) (n k j : Nat) (h : j < n) : (gens f g n k)[j]? = some (if j < k then f j else g j) := by
  simp [gens, List.getElem?_range h]
theorem gens_zero {α : Type} (f g : Nat → α) (n : Nat) : gens f g n 0 = (List.range n).map g := by simp [gens]
theorem gens_all {α : Type} (f g : Nat → α) (n : Nat) : gens f g n n = (List.range n).map f := by
  unfold gens
  apply List.map_congr_left
  intro i hi
  rw [if_pos (List.mem_range.1 hi)]
theorem gens_set {α : Type} (f g : Nat → α) (n k : Nat) : (gens f g n k).set k (f k) = gens f g n (k + 1) := by
  apply List.ext_getElem?
  intro i
  rw [List.getElem?_set]
  by_cases hn : i < n
  · rw [gens_get f g n k i hn, gens_get f g n (k + 1) i hn]
    by_cases e : k = i
    · subst e
      rw [if_pos rfl, if_pos (by rw [gens_length]; exact hn), if_pos (by omega)]
    · rw [if_neg e]
      by_cases e2 : i < k
      · rw [if_pos e2, if_pos (by omega)]
      · rw [if_neg e2, if_neg (by omega)]
  · have h1 : (gens f g n k)[i]? = none := List.getElem?_eq_none (by rw [gens_length]; omega)
    have h2 : (gens f g n (k + 1))[i]? = none := List.getElem?_eq_none (by rw [gens_length]; omega)
    rw [h1, h2]
    by_cases e : k = i
    · rw [if_pos e, if_neg (by rw [gens_length]; omega)]
    · rw [if_neg e]
theorem range_getD {α : Type} (d : α) (l : List α) (n : Nat) (h : l.length = n) : (List.range n).map (fun i => l.getD i d) = l := by
  subst h
  apply List.ext_getElem?
  intro i
  by_cases hi : i < l.length
  · simp [hi]
  · rw [List.getElem?_eq_none (by simp; omega), List.getElem?_eq_none (by omega)]
theorem map_range_getD {α β : Type} (d : α) (F : α → β) (l : List α) (n : Nat) (h : l.length = n) : (List.range n).map (fun i => F (l.getD i d)) = l.map F := by
  have := congrArg (List.map F) (range_getD d l n h)
  rw [List.map_map] at this
  exact this

def turned (l : List UInt8) : List UInt8 := (List.range 16).map fun i => l.getD ((i + 4 * (i % 4)) % 16) 0
def withKey (l k : List UInt8) : List UInt8 := (List.range 16).map fun i => l.getD i 0 ^^^ k.getD i 0
def all4 (l : List UInt8) (c : Nat) : UInt8 := l.getD c 0 ^^^ l.getD (c + 1) 0 ^^^ l.getD (c + 2) 0 ^^^ l.getD (c + 3) 0
def mix1 (l : List UInt8) (i : Nat) : UInt8 := l.getD i 0 ^^^ (all4 l (i / 4 * 4) ^^^ mul (l.getD i 0 ^^^ l.getD (i / 4 * 4 + (i % 4 + 1) % 4) 0) 2)
def mixed (l : List UInt8) : List UInt8 := (List.range 16).map (mix1 l)
theorem turned_length (l : List UInt8) : (turned l).length = 16 := by simp [turned]
theorem withKey_length (l k : List UInt8) : (withKey l k).length = 16 := by simp [withKey]
theorem mixed_length (l : List UInt8) : (mixed l).length = 16 := by simp [mixed]
theorem mix4 (l : List UInt8) (k : Nat) (x0 x1 x2 x3 : UInt8) (h0 : l.getD (4 * k) 0 = x0) (h1 : l.getD (4 * k + 1) 0 = x1) (h2 : l.getD (4 * k + 2) 0 = x2) (h3 : l.getD (4 * k + 3) 0 = x3) :
    ((((gens (mix1 l) (fun i => l.getD i 0) 16 (4 * k)).set (4 * k) (x0 ^^^ (x0 ^^^ x1 ^^^ x2 ^^^ x3 ^^^ mul (x0 ^^^ x1) 2))).set (4 * k + 1) (x1 ^^^ (x0 ^^^ x1 ^^^ x2 ^^^ x3 ^^^ mul (x1 ^^^ x2) 2))).set (4 * k + 2) (x2 ^^^ (x0 ^^^ x1 ^^^ x2 ^^^ x3 ^^^ mul (x2 ^^^ x3) 2))).set (4 * k + 3) (x3 ^^^ (x0 ^^^ x1 ^^^ x2 ^^^ x3 ^^^ mul (x3 ^^^ x0) 2)) =
      gens (mix1 l) (fun i => l.getD i 0) 16 (4 * (k + 1)) := by
  have e : ∀ r, r < 4 → (4 * k + r) / 4 * 4 = 4 * k ∧ (4 * k + r) % 4 = r := fun r hr => by omega
  have m0 : mix1 l (4 * k) = x0 ^^^ (x0 ^^^ x1 ^^^ x2 ^^^ x3 ^^^ mul (x0 ^^^ x1) 2) := by
    have := e 0 (by omega)
    simp only [Nat.add_zero] at this
    unfold mix1 all4
    rw [this.1, this.2, h0, h1, h2, h3]
  have m1 : mix1 l (4 * k + 1) = x1 ^^^ (x0 ^^^ x1 ^^^ x2 ^^^ x3 ^^^ mul (x1 ^^^ x2) 2) := by
    unfold mix1 all4
    rw [(e 1 (by omega)).1, (e 1 (by omega)).2, h0, h1, h2, h3]
  have m2 : mix1 l (4 * k + 2) = x2 ^^^ (x0 ^^^ x1 ^^^ x2 ^^^ x3 ^^^ mul (x2 ^^^ x3) 2) := by
    unfold mix1 all4
    rw [(e 2 (by omega)).1, (e 2 (by omega)).2, h0, h1, h2, h3]
  have m3 : mix1 l (4 * k + 3) = x3 ^^^ (x0 ^^^ x1 ^^^ x2 ^^^ x3 ^^^ mul (x3 ^^^ x0) 2) := by
    unfold mix1 all4
    rw [(e 3 (by omega)).1, (e 3 (by omega)).2, h0, h1, h2, h3]
    show _ ^^^ (_ ^^^ mul (x3 ^^^ l.getD (4 * k + 0) 0) 2) = _
    rw [Nat.add_zero, h0]
  rw [show 4 * (k + 1) = 4 * k + 3 + 1 by omega, ← m0, gens_set, ← m1, gens_set, ← m2, gens_set, ← m3, gens_set]
/-- A round: of n round keys, the one behind place i. -/
def rnd (n : Nat) (s : List UInt8) (i : Nat) (k : List UInt8) : List UInt8 := withKey (if i + 2 < n then mixed (turned (s.map box)) else turned (s.map box)) k
def rounds (n : Nat) (K : Nat → List UInt8) (s : List UInt8) : Nat → List UInt8
  | 0 => s
  | i + 1 => rnd n (rounds n K s i) i (K (i + 1))
def crypt (n : Nat) (K : Nat → List UInt8) (block : List UInt8) : List UInt8 := rounds n K (withKey block (K 0)) (n - 1)
theorem rnd_length (n : Nat) (s : List UInt8) (i : Nat) (k : List UInt8) : (rnd n s i k).length = 16 := withKey_length _ _
theorem rounds_length (n : Nat) (K : Nat → List UInt8) (s : List UInt8) (hs : s.length = 16) (i : Nat) : (rounds n K s i).length = 16 := by
  cases i with
  | zero => exact hs
  | succ i => exact rnd_length _ _ _ _
end Sx
end Go.Proofs.Ytieooonobjkglaa
namespace Go.Proofs.Ytieooonobjkglaa
namespace Sx
/-- A word, turned, by its number. -/
def kword (k i : Nat) (x0 x1 x2 x3 : UInt8) : List UInt8 :=
  if i % k = 0 then [box x1 ^^^ pow 2 (i / k - 1), box x2, box x3, box x0]
  else if k = 8 ∧ i % k = 4 then [box x0, box x1, box x2, box x3]
  else [x0, x1, x2, x3]
def kwords (k i : Nat) (all : List UInt8) : List UInt8 := kword k i (all.getD (4 * i - 4) 0) (all.getD (4 * i - 4 + 1) 0) (all.getD (4 * i - 4 + 2) 0) (all.getD (4 * i - 4 + 3) 0)
def kadd (k i : Nat) (all ys : List UInt8) (r : Nat) : List UInt8 := (List.range r).map fun r => all.getD (4 * (i - k) + r) 0 ^^^ ys.getD r 0
/-- All bytes, up to word i. -/
def kall (k : Nat) (key : List UInt8) : Nat → List UInt8
  | 0 => key
  | i + 1 => if i < k then key else kall k key i ++ kadd k i (kall k key i) (kwords k i (kall k key i)) 4
def keyAt (k : Nat) (key : List UInt8) (j : Nat) : List UInt8 := ((kall k key (4 * (k + 7))).drop (16 * j)).take 16
theorem kword_length (k i : Nat) (x0 x1 x2 x3 : UInt8) : (kword k i x0 x1 x2 x3).length = 4 := by
  unfold kword
  split
  · rfl
  · split <;> rfl
theorem kadd_length (k i : Nat) (all ys : List UInt8) (r : Nat) : (kadd k i all ys r).length = r := by simp [kadd]
theorem kadd_succ (k i : Nat) (all ys : List UInt8) (r : Nat) : kadd k i all ys (r + 1) = kadd k i all ys r ++ [all.getD (4 * (i - k) + r) 0 ^^^ ys.getD r 0] := by
  simp [kadd, List.range_succ]
theorem kall_first (k : Nat) (key : List UInt8) (i : Nat) (h : i ≤ k) : kall k key i = key := by
  cases i with
  | zero => rfl
  | succ i => rw [kall, if_pos (by omega)]
theorem kall_succ (k : Nat) (key : List UInt8) (i : Nat) (h : k ≤ i) : kall k key (i + 1) = kall k key i ++ kadd k i (kall k key i) (kwords k i (kall k key i)) 4 := by
  rw [kall, if_neg (by omega)]
theorem kall_length (k : Nat) (key : List UInt8) (hk : key.length = 4 * k) (i : Nat) (h : k ≤ i) : (kall k key i).length = 4 * i := by
  induction i with
  | zero => simp [kall, hk]; omega
  | succ i ih =>
    by_cases e : k ≤ i
    · rw [kall_succ k key i e, List.length_append, kadd_length, ih e]; omega
    · rw [kall_first k key _ (by omega), hk]; omega
theorem keyAt_length (k : Nat) (key : List UInt8) (hk : key.length = 4 * k) (j : Nat) (hj : j < k + 7) : (keyAt k key j).length = 16 := by
  unfold keyAt
  rw [List.length_take, List.length_drop, kall_length k key hk _ (by omega)]
  omega
end Sx
end Go.Proofs.Ytieooonobjkglaa
namespace Go.Proofs.Ytieooonobjkglaa
open SW
namespace Sx
def wordOf (l : List UInt8) : UInt64 := l.foldl (fun n c => (n <<< 8) ||| c.toUInt64) 0
theorem wordOf_succ (l : List UInt8) (k : Nat) (h : k < l.length) : wordOf (l.take (k + 1)) = (wordOf (l.take k) <<< 8) ||| (l.getD k 0).toUInt64 := by
  unfold wordOf
  rw [List.take_add_one, List.foldl_append, List.getD_eq_getElem?_getD, List.getElem?_eq_getElem h]
  rfl
def word (l : List UInt8) : UInt64 := wordOf (l.take 8)
def num (n : UInt64) (i : Nat) : UInt8 := (n >>> UInt64.ofNat (56 - 8 * i)).toUInt8
def nums (n : UInt64) : List UInt8 := (List.range 8).map (num n)
abbrev Poly := UInt64 × UInt64
def bit (p : Poly) (i : Nat) : Bool := ((if i < 64 then p.1 else p.2) >>> UInt64.ofNat (63 - i % 64)) &&& 1 == 1
def shifted (p : Poly) : Poly := (p.1 >>> 1, p.1 <<< 63 ||| p.2 >>> 1)
def raised (p : Poly) : Poly := if p.2 &&& 1 == 1 then ((shifted p).1 ^^^ 16212958658533785600, (shifted p).2) else shifted p
def pxor (p q : Poly) : Poly := (p.1 ^^^ q.1, p.2 ^^^ q.2)
/-- The product's sum behind k rounds. -/
def timesAt (p q : Poly) : Nat → Poly
  | 0 => (0, 0)
  | k + 1 => if bit q (127 - k) then pxor (raised (timesAt p q k)) p else raised (timesAt p q k)
def times (p q : Poly) : Poly := timesAt p q 128
def polyOf (l : List UInt8) : Poly := (word l, word (l.drop 8))
def polyBlock (p : Poly) : List UInt8 := nums p.1 ++ nums p.2
theorem nums_length (n : UInt64) : (nums n).length = 8 := by simp [nums]
theorem polyBlock_length (p : Poly) : (polyBlock p).length = 16 := by simp [polyBlock, nums_length]
end Sx
theorem U64_shl8 (a : UInt64) : U64 a * (256 : Int) % (18446744073709551616 : Int) = U64 (a <<< 8) := by
  have := U64_shl a 8 (by omega)
  exact this
theorem U64_shl63 (a : UInt64) : U64 a * (9223372036854775808 : Int) % (18446744073709551616 : Int) = U64 (a <<< 63) := by
  have := U64_shl a 63 (by omega)
  exact this
theorem U64_shr1 (a : UInt64) : U64 a / (2 : Int) = U64 (a >>> 1) := U64_shr a 1 (by omega)
theorem U64_wshl8 (a : UInt64) : IntKind.u64.wrap (U64 a * (256 : Int)) = U64 (a <<< 8) := U64_shl a 8 (by omega)
theorem U64_wshl63 (a : UInt64) : IntKind.u64.wrap (U64 a * (9223372036854775808 : Int)) = U64 (a <<< 63) := U64_shl a 63 (by omega)
theorem U64_w8 (c : UInt8) : IntKind.u64.wrap (U8 c) = U8 c := by rw [U64_of8, U64_wrap]
theorem U64_or8 (a : UInt64) (c : UInt8) : bits BinOp.or IntKind.u64 (U64 a) (U8 c) = U64 (a ||| c.toUInt64) := by rw [U64_of8, U64_or]
theorem U64_mod256 (a : UInt64) : U64 a % (256 : Int) = U8 a.toUInt8 := by unfold U64 U8; simp
theorem U64_and1 (a : UInt64) : bits BinOp.and IntKind.u64 (U64 a) 1 = U64 (a &&& 1) := U64_and a 1
theorem U64_beq1 (a : UInt64) : (U64 a == 1) = (a == 1) := U64_beq a 1
theorem U64_xorE1 (a : UInt64) : bits BinOp.xor IntKind.u64 (U64 a) 16212958658533785600 = U64 (a ^^^ 16212958658533785600) := U64_xor a 16212958658533785600
/-- A polynomial as a value. -/
def pv (p : Sx.Poly) : Array Value := #[.int .u64 (U64 p.1), .int .u64 (U64 p.2)]
end Go.Proofs.Ytieooonobjkglaa
namespace Go.Proofs.Ytieooonobjkglaa
namespace Sx
def frobTab : List Poly := [
  (0x10d04d25f93556e6, 0x9f58ce2f8d035a94),
  (0x202f566ef59a9949, 0x91d0e977a9aa5ba7),
  (0x602f566ef59a9949, 0x91d0e977a9aa5ba7),
  (0x3045202cccefc1ee, 0x67fd0ac2e3641972),
  (0x402f566ef59a9949, 0x91d0e977a9aa5ba7),
  (0x5672e0c1d328e3be, 0x0d2c5beb59e57554),
  (0x2045202cccefc1ee, 0x67fd0ac2e3641972),
  (0x187f9b4b8cafcfaf, 0x8e88275824a90133),
  (0x482f566ef59a9949, 0x91d0e977a9aa5ba7),
  (0x22da13517461d3ee, 0x69739a8be16c1972),
  (0x5272e0c1d328e3be, 0x0d2c5beb59e57554),
  (0x6aff55603cd3fcef, 0xf55228f556d54755),
  (0x2245202cccefc1ee, 0x67fd0ac2e3641972),
  (0x46fc06025397fc91, 0xbb49eab33e4cf467),
  (0x197f9b4b8cafcfaf, 0x8e88275824a90133),
  (0x646dca2be3d6cc87, 0xd093e2fc4c0f4ad5),
  (0x48af566ef59a9949, 0x91d0e977a9aa5ba7),
  (0x5cea2fd59105659e, 0x2d1ccaeb5d2c7d54),
  (0x229a13517461d3ee, 0x69739a8be16c1972),
  (0x3f46a4c41f7d3958, 0x74f4e33b9d331780),
  (0x5252e0c1d328e3be, 0x0d2c5beb59e57554),
  (0x312701524d961730, 0x583bcf844c342240),
  (0x6aef55603cd3fcef, 0xf55228f556d54755),
  (0x144559bb6c9ffcd7, 0xbc4c239cf48626f3),
  (0x224d202cccefc1ee, 0x67fd0ac2e3641972),
  (0x1a24eaea541cab0f, 0x9092b01169688933),
  (0x46f806025397fc91, 0xbb49eab33e4cf467),
  (0x2c14dba71e26fe96, 0x4f314b9433eb3eb2),
  (0x197d9b4b8cafcfaf, 0x8e88275824a90133),
  (0x2561da58536a903f, 0xe562896ae4899333),
  (0x646cca2be3d6cc87, 0xd093e2fc4c0f4ad5),
  (0x41d77800d619af28, 0x38dab35b297373a6),
  (0x48afd66ef59a9949, 0x91d0e977a9aa5ba7),
  (0x5ce7c3e3968e47f6, 0x2e5390ab45fe70d4),
  (0x5cea6fd59105659e, 0x2d1ccaeb5d2c7d54),
  (0x428019a11caacb88, 0x24c8241264b2fba6),
  (0x229a33517461d3ee, 0x69739a8be16c1972),
  (0x258e6f54b84bf6f7, 0xef54f70e70ef2ef3),
  (0x3f46b4c41f7d3958, 0x74f4e33b9d331780),
  (0x1af0929921b9589f, 0x9fb368dce89d2373),
  (0x5252e8c1d328e3be, 0x0d2c5beb59e57554),
  (0x3bdc8ad604f36599, 0xe246fae899f68fc1),
  (0x312705524d961730, 0x583bcf844c342240),
  (0x038e6217d7e479d8, 0x109554569546afc0),
  (0x6aef57603cd3fcef, 0xf55228f556d54755),
  (0x2bd77bb364ab6b3f, 0xc733d8875e039333),
  (0x144558bb6c9ffcd7, 0xbc4c239cf48626f3),
  (0x698e6217d7fb8627, 0xef6aa903c013fa95),
  (0x224d20acccefc1ee, 0x67fd0ac2e3641972),
  (0x21ce3a83c07704de, 0x74dad50f0d583b32),
  (0x1a24eaaa541cab0f, 0x9092b01169688933),
  (0x56f3167fe31312df, 0x9eb885b869165d55),
  (0x46f806225397fc91, 0xbb49eab33e4cf467),
  (0x77dcb1c60e3ad1c9, 0xe2190477682adba7),
  (0x2c14dbb71e26fe96, 0x4f314b9433eb3eb2),
  (0x7348a7e5645f92d0, 0x76e747a9d181ec26),
  (0x197d9b438cafcfaf, 0x8e88275824a90133),
  (0x2cfbb4409945161e, 0x45d21862e0409b32),
  (0x2561da5c536a903f, 0xe562896ae4899333),
  (0x36e717e02724b8f1, 0xd1527df73b8e8241),
  (0x646cca29e3d6cc87, 0xd093e2fc4c0f4ad5),
  (0x7adc3b3404788e11, 0xd4cfd6f8f5447467),
  (0x41d77801d619af28, 0x38dab35b297373a6),
  (0x04a2ade42a1db559, 0x927495c4d4e62fc1),
  (0x48afd66e759a9949, 0x91d0e977a9aa5ba7),
  (0x329f337db88e1200, 0x4e8e904902080000),
  (0x5ce7c3e3d68e47f6, 0x2e5390ab45fe70d4),
  (0x36e9eb0be64d6b99, 0xd3ec2e5e502bb781),
  (0x5cea6fd5b105659e, 0x2d1ccaeb5d2c7d54),
  (0x4622ba58b211bb21, 0xb69fb337b1785627),
  (0x428019a10caacb88, 0x24c8241264b2fba6),
  (0x049a065cd7758d51, 0x96f0e3578d383201),
  (0x229a33517c61d3ee, 0x69739a8be16c1972),
  (0x55aabdbeec28a207, 0x8079924a4cd2f295),
  (0x258e6f54bc4bf6f7, 0xef54f70e70ef2ef3),
  (0x7986f6afcfc951e9, 0xcb9188c1a5beebe7),
  (0x3f46b4c41d7d3958, 0x74f4e33b9d331780),
  (0x2f76850d57908a5e, 0x54a716d46cf0bb32),
  (0x1af0929920b9589f, 0x9fb368dce89d2373),
  (0x489a0b11781e0c11, 0x96cc4fdebc394c27),
  (0x5252e8c1d3a8e3be, 0x0d2c5beb59e57554),
  (0x072ccff3fd3d1861, 0x82e1ce9a41041041),
  (0x3bdc8ad604b36599, 0xe246fae899f68fc1),
  (0x5c33b52f8947e946, 0x2158188b7248d294),
  (0x312705524db61730, 0x583bcf844c342240),
  (0x79880aa666d696d9, 0xc926622882fff1e7),
  (0x038e6217d7f479d8, 0x109554569546afc0),
  (0x285aabc679b16ad7, 0xd6c2852abfdb1eb3),
  (0x6aef57603cdbfcef, 0xf55228f556d54755),
  (0x26d44eb77ddd535f, 0xf0b1c738de72bb33),
  (0x2bd77bb364af6b3f, 0xc733d8875e039333),
  (0x3cfddc25f2ae2df8, 0x6391fd8d3387a7c0),
  (0x144558bb6c9dfcd7, 0xbc4c239cf48626f3),
  (0x457534e82f16f649, 0xaa2d862c91005ba7),
  (0x698e6217d7fa8627, 0xef6aa903c013fa95),
  (0x4bf8b9d33b8f3819, 0x8de17cdee54751e7),
  (0x224d20acccef41ee, 0x67fd0ac2e3641972),
  (0x634efa836deeebf6, 0x50dae654442b4894),
  (0x21ce3a83c07744de, 0x74dad50f0d583b32),
  (0x4bf6a9a1f02e1f69, 0x8fec4b1a74166be7),
  (0x1a24eaaa541c8b0f, 0x9092b01169688933),
  (0x6462e2cc93c28627, 0xd2d0526e0d66c2d5),
  (0x56f3167fe31302df, 0x9eb885b869165d55),
  (0x79b07befedd921e9, 0xcd751ec18ebeebe7),
  (0x46f806225397f491, 0xbb49eab33e4cf467),
  (0x701c741cbd9fc8b0, 0x6b94eadf79b8c426),
  (0x77dcb1c60e3ad5c9, 0xe2190477682adba7),
  (0x044eaa59bd8819a9, 0x99287fa5ed58ad81),
  (0x2c14dbb71e26fc96, 0x4f314b9433eb3eb2),
  (0x602105ae977251e6, 0x4834e0c2dd2d5a94),
  (0x7348a7e5645f93d0, 0x76e747a9d181ec26),
  (0x645919a4b35879f7, 0xd7a68d71cb5770d5),
  (0x197d9b438cafcf2f, 0x8e88275824a90133),
  (0x00000d94d9da1808, 0x0030c4db699e5dc0),
  (0x2cfbb4409945165e, 0x45d21862e0409b32),
  (0x099a6e1cca2f8641, 0xa0b0910804c90841),
  (0x2561da5c536a901f, 0xe562896ae4899333),
  (0x5f86cdbc744e28fe, 0x3430f49ddf071154),
  (0x36e717e02724b8e1, 0xd1527df73b8e8241),
  (0x51eae8be2fe60df6, 0x1bf9191de1788d94),
  (0x646cca29e3d6cc8f, 0xd093e2fc4c0f4ad5),
  (0x5f67891c31b7edb0, 0x3c86875f90384d1c),
  (0x7adc3b3404788e15, 0xd4cfd6f8f5447467),
  (0x36dc3b3404788e15, 0xd4cfd6f8f5447461),
  (0x41d77801d619af2a, 0x38dab35b297373a6),
  (0x35bd0e43ef6cf78d, 0xcef750ee63bd3171),
  (0x04a2ade42a1db558, 0x927495c4d4e62fc1),
  (0x0000000000000000, 0x0000000000000000)]
end Sx
end Go.Proofs.Ytieooonobjkglaa
namespace Go.Proofs.Ytieooonobjkglaa
open SW
namespace Sx
set_option maxRecDepth 100000
/-! ### Bits -/
theorem u64_ext {a b : UInt64} (h : ∀ j, j < 64 → a.toNat.testBit j = b.toNat.testBit j) : a = b := by
  apply UInt64.toNat_inj.1
  apply Nat.eq_of_testBit_eq
  intro j
  by_cases hj : j < 64
  · exact h j hj
  · rw [Nat.testBit_lt_two_pow (Nat.lt_of_lt_of_le a.toNat_lt (Nat.pow_le_pow_right (by omega) (by omega))), Nat.testBit_lt_two_pow (Nat.lt_of_lt_of_le b.toNat_lt (Nat.pow_le_pow_right (by omega) (by omega)))]
theorem and1_testBit (a : UInt64) : (a &&& 1 == 1) = a.toNat.testBit 0 := by
  rw [Bool.eq_iff_iff, beq_iff_eq, ← UInt64.toNat_inj]
  simp [Nat.testBit_zero, Nat.and_one_is_mod]
theorem shr_testBit (a : UInt64) (k j : Nat) (hk : k < 64) : (a >>> UInt64.ofNat k).toNat.testBit j = a.toNat.testBit (k + j) := by
  have e : (UInt64.ofNat k).toNat % 64 = k := by rw [UInt64.toNat_ofNat']; omega
  rw [UInt64.toNat_shiftRight, e, Nat.testBit_shiftRight]
theorem bit_eq (p : Poly) (i : Nat) : bit p i = (if i < 64 then p.1 else p.2).toNat.testBit (63 - i % 64) := by
  unfold bit
  rw [and1_testBit, shr_testBit _ _ _ (by omega), Nat.add_zero]
theorem bit_hi (p : Poly) (i : Nat) (h : i < 64) : bit p i = p.1.toNat.testBit (63 - i) := by rw [bit_eq, if_pos h, Nat.mod_eq_of_lt h]
theorem bit_lo (p : Poly) (i : Nat) (h : 64 ≤ i) (h2 : i < 128) : bit p i = p.2.toNat.testBit (127 - i) := by rw [bit_eq, if_neg (by omega), show 63 - i % 64 = 127 - i by omega]
theorem poly_ext {p q : Poly} (h : ∀ i, i < 128 → bit p i = bit q i) : p = q := by
  apply Prod.ext
  · apply u64_ext
    intro j hj
    have := h (63 - j) (by omega)
    rw [bit_hi _ _ (by omega), bit_hi _ _ (by omega)] at this
    rwa [show 63 - (63 - j) = j by omega] at this
  · apply u64_ext
    intro j hj
    have := h (127 - j) (by omega)
    rw [bit_lo _ _ (by omega) (by omega), bit_lo _ _ (by omega) (by omega)] at this
    rwa [show 127 - (127 - j) = j by omega] at this
theorem bit_xor (p q : Poly) (i : Nat) : bit (pxor p q) i = (bit p i ^^ bit q i) := by
  rw [bit_eq, bit_eq, bit_eq]
  unfold pxor
  split <;> simp [UInt64.toNat_xor, Nat.testBit_xor]
theorem bit_zero (i : Nat) : bit (0, 0) i = false := by rw [bit_eq]; split <;> simp
/-! ### Sums -/
theorem px_comm (a b : Poly) : pxor a b = pxor b a := by unfold pxor; rw [UInt64.xor_comm, UInt64.xor_comm a.2]
theorem px_assoc (a b c : Poly) : pxor (pxor a b) c = pxor a (pxor b c) := by unfold pxor; rw [UInt64.xor_assoc, UInt64.xor_assoc]
theorem px_self (a : Poly) : pxor a a = (0, 0) := by unfold pxor; rw [UInt64.xor_self, UInt64.xor_self]
theorem px_zero (a : Poly) : pxor a (0, 0) = a := by unfold pxor; rw [UInt64.xor_zero, UInt64.xor_zero]
theorem zero_px (a : Poly) : pxor (0, 0) a = a := by rw [px_comm, px_zero]
theorem px_eq_zero {a b : Poly} (h : pxor a b = (0, 0)) : a = b := by
  have := congrArg (fun x => pxor x b) h
  simp only [px_assoc, px_self, px_zero, zero_px] at this
  exact this
theorem px_four (a b c d : Poly) : pxor (pxor a b) (pxor c d) = pxor (pxor a c) (pxor b d) := by
  rw [px_assoc, ← px_assoc b, px_comm b c, px_assoc c, ← px_assoc]
theorem px_left {a b c : Poly} (h : pxor c a = pxor c b) : a = b := by
  have := congrArg (pxor c) h
  rwa [← px_assoc, ← px_assoc, px_self, zero_px, zero_px] at this
/-- A map that keeps sums. -/
structure Lin (F : Poly → Poly) : Prop where
  zero : F (0, 0) = (0, 0)
  add : ∀ a b, F (pxor a b) = pxor (F a) (F b)
def unit (k : Nat) : Poly := if k < 64 then (1 <<< UInt64.ofNat (63 - k), 0) else (0, 1 <<< UInt64.ofNat (127 - k))
theorem bit_unit : ∀ k, k < 128 → ∀ j, j < 128 → bit (unit k) j = (j == k) := by decide +kernel
def sumTo (v : Poly) : Nat → Poly
  | 0 => (0, 0)
  | k + 1 => pxor (sumTo v k) (if bit v k then unit k else (0, 0))
theorem bit_sumTo (v : Poly) (k : Nat) (hk : k ≤ 128) (j : Nat) (hj : j < 128) : bit (sumTo v k) j = (decide (j < k) && bit v j) := by
  induction k with
  | zero => simp [sumTo, bit_zero]
  | succ k ih =>
    rw [sumTo, bit_xor, ih (by omega)]
    by_cases e : j = k
    · subst e
      cases hb : bit v j
      · simp [bit_zero]
      · simp [bit_unit j (by omega) j hj]
    · have hu : bit (if bit v k then unit k else (0, 0)) j = false := by
        split
        · rw [bit_unit k (by omega) j hj]; simpa using e
        · exact bit_zero j
      rw [hu]
      have : decide (j < k + 1) = decide (j < k) := by rw [decide_eq_decide]; omega
      rw [this]; simp
theorem sumTo_all (v : Poly) : sumTo v 128 = v := poly_ext fun j hj => by rw [bit_sumTo v 128 (by omega) j hj]; simp [hj]
theorem Lin.sumTo {F G : Poly → Poly} (hF : Lin F) (hG : Lin G) (h : ∀ k, k < 128 → F (unit k) = G (unit k)) (v : Poly) (k : Nat) (hk : k ≤ 128) : F (sumTo v k) = G (sumTo v k) := by
  induction k with
  | zero => rw [Sx.sumTo, hF.zero, hG.zero]
  | succ k ih =>
    rw [Sx.sumTo, hF.add, hG.add, ih (by omega)]
    congr 1
    split
    · exact h k (by omega)
    · rw [hF.zero, hG.zero]
theorem Lin.ext {F G : Poly → Poly} (hF : Lin F) (hG : Lin G) (h : ∀ k, k < 128 → F (unit k) = G (unit k)) (v : Poly) : F v = G v := by
  have := hF.sumTo hG h v 128 (by omega)
  rwa [sumTo_all] at this
theorem Lin.id : Lin (fun v => v) := ⟨rfl, fun _ _ => rfl⟩
theorem Lin.comp {F G : Poly → Poly} (hF : Lin F) (hG : Lin G) : Lin (fun v => F (G v)) := ⟨by rw [hG.zero, hF.zero], fun a b => by rw [hG.add, hF.add]⟩
theorem Lin.px {F G : Poly → Poly} (hF : Lin F) (hG : Lin G) : Lin (fun v => pxor (F v) (G v)) := ⟨by rw [hG.zero, hF.zero, px_self], fun a b => by rw [hG.add, hF.add, px_four]⟩
/-! ### The product -/
theorem bit_shifted (p : Poly) (i : Nat) (hi : i < 128) : bit (shifted p) i = (if i = 0 then false else bit p (i - 1)) := by
  have e1 : (1 : UInt64) = UInt64.ofNat 1 := rfl
  have e63 : (63 : UInt64) = UInt64.ofNat 63 := rfl
  by_cases h0 : i = 0
  · subst h0
    rw [bit_hi _ _ (by omega)]
    show (p.1 >>> 1).toNat.testBit 63 = _
    rw [e1, shr_testBit _ _ _ (by omega), if_pos rfl]
    exact Nat.testBit_lt_two_pow p.1.toNat_lt
  · rw [if_neg h0]
    by_cases h : i < 64
    · rw [bit_hi _ _ h, bit_hi _ _ (by omega)]
      show (p.1 >>> 1).toNat.testBit (63 - i) = _
      rw [e1, shr_testBit _ _ _ (by omega), show 1 + (63 - i) = 63 - (i - 1) by omega]
    · rw [bit_lo _ _ (by omega) hi]
      show (p.1 <<< 63 ||| p.2 >>> 1).toNat.testBit (127 - i) = _
      have e : (63 : UInt64).toNat % 64 = 63 := rfl
      rw [UInt64.toNat_or, Nat.testBit_or, e1, shr_testBit _ _ _ (by omega), UInt64.toNat_shiftLeft, e, Nat.testBit_mod_two_pow, Nat.testBit_shiftLeft]
      by_cases h64 : i = 64
      · subst h64
        rw [bit_hi _ _ (by omega)]
        have : p.2.toNat.testBit (1 + (127 - 64)) = false := Nat.testBit_lt_two_pow p.2.toNat_lt
        rw [this]
        simp
      · rw [bit_lo _ _ (by omega) (by omega)]
        have : decide (127 - i ≥ 63) = false := by simp; omega
        rw [this, show 1 + (127 - i) = 127 - (i - 1) by omega]
        simp
theorem shifted_lin : Lin shifted := by
  refine ⟨rfl, fun a b => poly_ext fun i hi => ?_⟩
  rw [bit_xor, bit_shifted _ _ hi, bit_shifted _ _ hi, bit_shifted _ _ hi]
  split
  · rfl
  · exact bit_xor _ _ _
theorem raised_eq (p : Poly) : raised p = pxor (shifted p) (if bit p 127 then (16212958658533785600, 0) else (0, 0)) := by
  have hb : bit p 127 = (p.2 &&& 1 == 1) := by rw [and1_testBit, bit_lo _ _ (by omega) (by omega)]
  unfold raised
  rw [hb]
  split
  · unfold pxor; rw [UInt64.xor_zero]
  · rw [px_zero]
/-- What a bit turns on. -/
theorem on_lin (i : Nat) (c : Poly) : Lin (fun v => if bit v i then c else (0, 0)) := by
  refine ⟨by simp [bit_zero], fun a b => ?_⟩
  show (if bit (pxor a b) i then c else (0, 0)) = _
  rw [bit_xor]
  cases bit a i <;> cases bit b i <;> simp [px_zero, zero_px, px_self]
theorem raised_lin : Lin raised := by
  have : raised = fun p => pxor (shifted p) (if bit p 127 then (16212958658533785600, 0) else (0, 0)) := funext raised_eq
  rw [this]
  exact Lin.px shifted_lin (on_lin _ _)
theorem timesAt_eq (p q : Poly) (k : Nat) : timesAt p q (k + 1) = pxor (raised (timesAt p q k)) (if bit q (127 - k) then p else (0, 0)) := by
  rw [timesAt]; split
  · rfl
  · rw [px_zero]
theorem timesAt_left (q : Poly) (k : Nat) : Lin (fun p => timesAt p q k) := by
  induction k with
  | zero => exact ⟨rfl, fun _ _ => (px_self (0, 0)).symm⟩
  | succ k ih =>
    have : (fun p => timesAt p q (k + 1)) = fun p => pxor (raised (timesAt p q k)) (if bit q (127 - k) then p else (0, 0)) := funext fun p => timesAt_eq p q k
    rw [this]
    refine Lin.px (Lin.comp raised_lin ih) ⟨by simp, fun a b => ?_⟩
    show (if _ then _ else _) = _
    split
    · rfl
    · exact (px_self _).symm
theorem timesAt_right (p : Poly) (k : Nat) : Lin (fun q => timesAt p q k) := by
  induction k with
  | zero => exact ⟨rfl, fun _ _ => (px_self (0, 0)).symm⟩
  | succ k ih =>
    have : (fun q => timesAt p q (k + 1)) = fun q => pxor (raised (timesAt p q k)) (if bit q (127 - k) then p else (0, 0)) := funext fun q => timesAt_eq p q k
    rw [this]
    exact Lin.px (Lin.comp raised_lin ih) (on_lin _ _)
theorem times_left (q : Poly) : Lin (fun p => times p q) := timesAt_left q 128
theorem times_right (p : Poly) : Lin (fun q => times p q) := timesAt_right p 128
theorem timesAt_raised (p q : Poly) (k : Nat) : timesAt (raised p) q k = raised (timesAt p q k) := by
  induction k with
  | zero => exact raised_lin.zero.symm
  | succ k ih =>
    rw [timesAt_eq, timesAt_eq, ih, raised_lin.add]
    congr 1
    split
    · rfl
    · exact raised_lin.zero.symm
theorem times_raised (p q : Poly) : times (raised p) q = raised (times p q) := timesAt_raised p q 128
def one : Poly := unit 0
theorem unit_raised : ∀ k, k < 127 → raised (unit k) = unit (k + 1) := by decide +kernel
theorem one_unit : ∀ k, k < 128 → times one (unit k) = unit k := by decide +kernel
theorem one_times (v : Poly) : times one v = v := Lin.ext (times_right one) Lin.id one_unit v
def itr {α : Type} (f : α → α) : Nat → α → α
  | 0, x => x
  | k + 1, x => f (itr f k x)
theorem itr_add {α : Type} (f : α → α) (m n : Nat) (x : α) : itr f m (itr f n x) = itr f (m + n) x := by
  induction m with
  | zero => simp [itr]
  | succ m ih => rw [itr, ih, show m + 1 + n = (m + n) + 1 by omega, itr]
theorem itr_lin {F : Poly → Poly} (h : Lin F) (k : Nat) : Lin (itr F k) := by
  induction k with
  | zero => exact Lin.id
  | succ k ih => exact ⟨by rw [itr, ih.zero, h.zero], fun a b => by rw [itr, ih.add, h.add]; rfl⟩
theorem unit_times (k : Nat) (hk : k < 128) (v : Poly) : times (unit k) v = itr raised k v := by
  induction k with
  | zero => exact one_times v
  | succ k ih => rw [← unit_raised k (by omega), times_raised, ih (by omega), itr]
theorem unit_itr (k : Nat) (hk : k < 128) : unit k = itr raised k one := by
  induction k with
  | zero => rfl
  | succ k ih => rw [itr, ← ih (by omega), unit_raised k (by omega)]
theorem times_comm (a b : Poly) : times a b = times b a := by
  refine Lin.ext (times_left b) (times_right b) (fun k hk => ?_) a
  refine Lin.ext (times_right (unit k)) (times_left (unit k)) (fun j hj => ?_) b
  show times (unit k) (unit j) = times (unit j) (unit k)
  rw [unit_times k hk, unit_times j hj, unit_itr j hj, unit_itr k hk, itr_add, itr_add, Nat.add_comm]
theorem itr_raised_times (k : Nat) (a b : Poly) : times (itr raised k a) b = itr raised k (times a b) := by
  induction k with
  | zero => rfl
  | succ k ih => rw [itr, times_raised, ih, itr]
theorem times_assoc (a b c : Poly) : times (times a b) c = times a (times b c) := by
  refine Lin.ext (F := fun a => times (times a b) c) (G := fun a => times a (times b c)) (Lin.comp (times_left c) (times_left b)) (times_left _) (fun k hk => ?_) a
  show times (times (unit k) b) c = times (unit k) (times b c)
  rw [unit_times k hk, itr_raised_times, unit_times k hk]
theorem times_one (v : Poly) : times v one = v := by rw [times_comm, one_times]
theorem zero_times (v : Poly) : times (0, 0) v = (0, 0) := (times_left v).zero
theorem times_zero (v : Poly) : times v (0, 0) = (0, 0) := (times_right v).zero
/-! ### Squares -/
def sq (a : Poly) : Poly := times a a
theorem sq_lin : Lin sq := ⟨zero_times _, fun a b => by
  unfold sq
  rw [(times_left _).add, (times_right a).add, (times_right b).add, times_comm b a, px_assoc, ← px_assoc (times a b) (times a b), px_self, zero_px]⟩
theorem sq_times (a b : Poly) : sq (times a b) = times (sq a) (sq b) := by
  unfold sq
  rw [times_assoc, ← times_assoc b a b, times_comm b a, times_assoc a b b, ← times_assoc]
theorem itr_sq_times (k : Nat) (a b : Poly) : itr sq k (times a b) = times (itr sq k a) (itr sq k b) := by
  induction k with
  | zero => rfl
  | succ k ih => rw [itr, ih, sq_times]; rfl
theorem frob_x : itr sq 128 (unit 1) = unit 1 := by decide +kernel
theorem frob_unit (k : Nat) (hk : k < 128) : itr sq 128 (unit k) = unit k := by
  induction k with
  | zero =>
    have h1 : ∀ n, itr sq n one = one := fun n => by
      induction n with
      | zero => rfl
      | succ n ih => rw [itr, ih]; exact one_times one
    exact h1 128
  | succ k ih =>
    have e : unit (k + 1) = times (unit 1) (unit k) := by rw [unit_times 1 (by omega), itr, itr, unit_raised k (by omega)]
    rw [e, itr_sq_times, frob_x, ih (by omega)]
theorem frob (v : Poly) : itr sq 128 v = v := Lin.ext (itr_lin sq_lin 128) Lin.id frob_unit v
/-! ### What is its own square -/
def tabL : List Poly → Nat → Poly → Poly
  | [], _, _ => (0, 0)
  | c :: l, i, v => pxor (if bit v i then c else (0, 0)) (tabL l (i + 1) v)
theorem tabL_lin (l : List Poly) (i : Nat) : Lin (tabL l i) := by
  induction l generalizing i with
  | nil => exact ⟨rfl, fun _ _ => (px_self _).symm⟩
  | cons c l ih => exact Lin.px (on_lin i c) (ih (i + 1))
theorem tab_unit : ∀ k, k < 128 → tabL frobTab 0 (pxor (sq (unit k)) (unit k)) = pxor (unit k) (if bit (unit k) 0 then one else (0, 0)) := by decide +kernel
theorem tab_all (v : Poly) : tabL frobTab 0 (pxor (sq v) v) = pxor v (if bit v 0 then one else (0, 0)) :=
  Lin.ext (Lin.comp (tabL_lin frobTab 0) (Lin.px sq_lin Lin.id)) (Lin.px Lin.id (on_lin 0 one)) tab_unit v
theorem sq_fixed {v : Poly} (h : sq v = v) : v = (0, 0) ∨ v = one := by
  have := tab_all v
  rw [h, px_self, (tabL_lin frobTab 0).zero] at this
  have e := px_eq_zero this.symm
  cases hb : bit v 0
  · left; rw [hb] at e; exact e
  · right; rw [hb] at e; exact e
/-! ### Nothing is lost -/
/-- The product of the squares from the m-th on, n of them. -/
def norm (q : Poly) (m : Nat) : Nat → Poly
  | 0 => one
  | n + 1 => times (itr sq m q) (norm q (m + 1) n)
theorem sq_norm (q : Poly) (n : Nat) : ∀ m, sq (norm q m n) = norm q (m + 1) n := by
  induction n with
  | zero => intro m; exact one_times one
  | succ n ih => intro m; rw [norm, norm, sq_times, ih]; rfl
theorem norm_back (q : Poly) (n : Nat) : ∀ m, norm q m (n + 1) = times (norm q m n) (itr sq (m + n) q) := by
  induction n with
  | zero => intro m; rw [norm, norm, norm, one_times, times_one, Nat.add_zero]
  | succ n ih =>
    intro m
    rw [norm, ih, norm, times_assoc, show m + 1 + n = m + (n + 1) by omega]
theorem norm_fixed (q : Poly) : sq (norm q 0 128) = norm q 0 128 := by
  rw [sq_norm, norm_back q 127 1, show 1 + 127 = 128 from rfl, frob, times_comm]
  rfl
theorem norm_keeps (q : Poly) (n : Nat) : ∀ m, times (itr sq m q) (norm q m n) = itr sq (m + n) q := by
  induction n with
  | zero => intro m; rw [norm, times_one, Nat.add_zero]
  | succ n ih =>
    intro m
    rw [norm, ← times_assoc]
    have : times (itr sq m q) (itr sq m q) = itr sq (m + 1) q := rfl
    rw [this, ih, show m + 1 + n = m + (n + 1) by omega]
theorem no_zeros {p q : Poly} (h : times p q = (0, 0)) (hq : q ≠ (0, 0)) : p = (0, 0) := by
  rcases sq_fixed (norm_fixed q) with e | e
  · exfalso
    have := norm_keeps q 128 0
    rw [e, times_zero, Nat.zero_add, frob] at this
    exact hq this.symm
  · have e2 : times q (norm q 1 127) = one := e
    have := congrArg (fun x => times x (norm q 1 127)) h
    have this : times (times p q) (norm q 1 127) = times (0, 0) (norm q 1 127) := this
    rw [times_assoc, e2, times_one, zero_times] at this
    exact this
theorem times_inj {a b q : Poly} (hq : q ≠ (0, 0)) (h : times a q = times b q) : a = b := by
  apply px_eq_zero
  apply no_zeros (q := q) _ hq
  rw [(times_left q).add, h, px_self]
end Sx
end Go.Proofs.Ytieooonobjkglaa
