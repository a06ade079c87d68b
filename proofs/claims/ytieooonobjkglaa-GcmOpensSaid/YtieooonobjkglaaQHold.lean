/- A block that is told by its size alone: for regions whose order is drawn, with calls that make blocks of their own. No condition. -/
import Derived.Test.YtieooonobjkglaaQOwn
import Derived.Deep.RegionHeld3
namespace Go.Proofs.Ytieooonobjkglaa
open Go Go.RowKit SW
/-- Block b holds n cells. -/
def Hold (W : World) (b n : Nat) (T : TypeId) : Prop := ∃ cs : Array Value, cs.size = n ∧ Blk W b cs T
/-- What an address holds. -/
def cellAt (W : World) (a : Addr) : Value := (W.cell? a).getD undef
namespace Hold
variable {W W' : World} {b n : Nat} {T : TypeId}
theorem of {cs : Array Value} (h : Blk W b cs T) (hn : cs.size = n) : Hold W b n T := ⟨cs, hn, h⟩
theorem lt (h : Hold W b n T) : b < W.heap.size := by obtain ⟨cs, _, h⟩ := h; exact h.lt
theorem below (h : Hold W b n T) {B : Nat} (hb : Below B W W') (hB : b < B) : Hold W' b n T := by obtain ⟨cs, e, h⟩ := h; exact ⟨cs, e, h.below hb hB⟩
theorem callee (h : Hold W b n T) (hb : Below W.heap.size W W') : Hold W' b n T := h.below hb h.lt
theorem drew (h : Hold W b n T) : Hold W.drew b n T := by obtain ⟨cs, e, h⟩ := h; exact ⟨cs, e, h.drew⟩
theorem alloc (h : Hold W b n T) (o : Obj) : Hold (W.alloc o) b n T := by obtain ⟨cs, e, h⟩ := h; exact ⟨cs, e, h.alloc o⟩
theorem set (h : Hold W b n T) (k : Nat) (v : Value) : Hold (W.setCell ⟨b, k, none⟩ v) b n T := by obtain ⟨cs, e, h⟩ := h; exact ⟨_, by simpa using e, h.set k v⟩
theorem other (h : Hold W b n T) {a : Addr} (ha : b ≠ a.block) (v : Value) : Hold (W.setCell a v) b n T := by obtain ⟨cs, e, h⟩ := h; exact ⟨cs, e, h.other ha v⟩
theorem cell (h : Hold W b n T) (k : Nat) (hk : k < n) : W.cell? ⟨b, k, none⟩ = some (cellAt W ⟨b, k, none⟩) := by
  obtain ⟨cs, e, h⟩ := h
  have := h.cell (k := k) (Array.getElem?_eq_getElem (by omega))
  unfold cellAt
  rw [this]; rfl
theorem free (h : Hold W b n T) (k : Nat) : W.frozen? ⟨b, k, none⟩ = false := by obtain ⟨cs, e, h⟩ := h; exact h.free k
end Hold
theorem Below.callee {w W W' : World} (h : Below w.heap.size w W) (k : Below W.heap.size W W') : Below w.heap.size w W' := h.trans (k.mono h.size)
theorem Blk.callee {W W' : World} {b : Nat} {cs : Array Value} {T : TypeId} (h : Blk W b cs T) (k : Below W.heap.size W W') : Blk W' b cs T := h.below k h.lt
theorem Blk.unset {W : World} {b k : Nat} {v : Value} {cs : Array Value} {T : TypeId} (h : Blk (W.setCell ⟨b, k, none⟩ v) b cs T) : ∃ cs0, cs0.size = cs.size ∧ Blk W b cs0 T ∧ cs = cs0.setIfInBounds k v := by
  have h' : (W.setCell ⟨b, k, none⟩ v).heap[b]? = some (.cells cs T (0, 0)) := h
  simp only [World.setCell, Array.getElem?_modify, if_pos] at h'
  cases hb : W.heap[b]? with
  | none => rw [hb] at h'; cases h'
  | some o =>
    rw [hb] at h'
    cases o with
    | cells c t f =>
      simp only [Option.map_some, Option.some.injEq, Obj.cells.injEq] at h'
      obtain ⟨h1, h2, h3⟩ := h'
      have h1' : c.setIfInBounds k v = cs := by simpa using h1
      exact ⟨c, by rw [← h1']; simp, by show W.heap[b]? = _; rw [hb, h2, h3], h1'.symm⟩
    | _ => simp at h'
/-- A block of two cells that were both stored into. -/
theorem Hold.two {W : World} {b : Nat} {x y : Value} {T : TypeId} (h : Hold ((W.setCell ⟨b, 0, none⟩ x).setCell ⟨b, 1, none⟩ y) b 2 T) : Blk ((W.setCell ⟨b, 0, none⟩ x).setCell ⟨b, 1, none⟩ y) b #[x, y] T := by
  obtain ⟨cs, hn, h⟩ := h
  obtain ⟨c1, e1, h1, r1⟩ := h.unset
  obtain ⟨c0, e0, h0, r0⟩ := h1.unset
  have : cs = #[x, y] := by
    rw [r1, r0]
    match c0, (show c0.size = 2 by omega) with
    | ⟨[p, q]⟩, _ => rfl
  rw [← this]; exact h
theorem held2 {w W : World} {b : Nat} {T : TypeId} (h : Below w.heap.size w W) (k : Hold W b 2 T) :
    Below w.heap.size w W ∧ Hold W b 2 T ∧ W.cell? ⟨b, 0, none⟩ = some (cellAt W ⟨b, 0, none⟩) ∧ W.cell? ⟨b, 1, none⟩ = some (cellAt W ⟨b, 1, none⟩) ∧ W.frozen? ⟨b, 0, none⟩ = false ∧ W.frozen? ⟨b, 1, none⟩ = false :=
  ⟨h, k, k.cell 0 (by omega), k.cell 1 (by omega), k.free 0, k.free 1⟩
/-- What is held of such a block, and of the world. -/
abbrev Held2 (w W : World) (b : Nat) (T : TypeId) : Prop :=
  Below w.heap.size w W ∧ Hold W b 2 T ∧ W.cell? ⟨b, 0, none⟩ = some (cellAt W ⟨b, 0, none⟩) ∧ W.cell? ⟨b, 1, none⟩ = some (cellAt W ⟨b, 1, none⟩) ∧ W.frozen? ⟨b, 0, none⟩ = false ∧ W.frozen? ⟨b, 1, none⟩ = false
theorem held2_callee {w W W' : World} {b : Nat} {T : TypeId} (h : Held2 w W b T) (hk : Below W.heap.size W W') : Held2 w W' b T := held2 (Below.callee h.1 hk) (Hold.callee h.2.1 hk)
theorem held2_set {w W : World} {T : TypeId} (h : Held2 w W w.heap.size T) (x y : Value) : Held2 w ((W.setCell ⟨w.heap.size, 0, none⟩ x).setCell ⟨w.heap.size, 1, none⟩ y) w.heap.size T :=
  held2 ((h.1.setCell (Nat.le_refl _) _).setCell (Nat.le_refl _) _) ((h.2.1.set _ _).set _ _)
theorem heldP {w W : World} {b : Nat} {T : TypeId} {x y : Value} (h : Below w.heap.size w W) (k : Blk W b #[x, y] T) :
    Below w.heap.size w W ∧ Blk W b #[x, y] T ∧ W.cell? ⟨b, 0, none⟩ = some x ∧ W.cell? ⟨b, 1, none⟩ = some y := ⟨h, k, k.cell (k := 0) rfl, k.cell (k := 1) rfl⟩
theorem heldP_callee {w W W' : World} {b : Nat} {T : TypeId} {x y : Value} (h : Below w.heap.size w W ∧ Blk W b #[x, y] T ∧ W.cell? ⟨b, 0, none⟩ = some x ∧ W.cell? ⟨b, 1, none⟩ = some y) (hk : Below W.heap.size W W') :
    Below w.heap.size w W' ∧ Blk W' b #[x, y] T ∧ W'.cell? ⟨b, 0, none⟩ = some x ∧ W'.cell? ⟨b, 1, none⟩ = some y := heldP (Below.callee h.1 hk) (Blk.callee h.2.1 hk)
theorem Blk.new' (w : World) (cs : Array Value) (T : TypeId) {b : Nat} (hb : b = w.heap.size) : Blk (w.alloc (.cells cs T)) b cs T := by subst hb; exact Blk.new w cs T
theorem str_add (a b : List UInt8) : (⟨a.toArray⟩ : ByteArray) ++ ⟨b.toArray⟩ = ⟨(a ++ b).toArray⟩ := by
  apply ByteArray.ext
  simp
/-- A whole array, as a slice. -/
theorem slice_all {P : Program} (t e : TypeId) (n b : Nat) (hu : P.underlying t = some (.array n e)) (hs : ∀ w, (Go.sizeOf e).run P w = .ok 1 w) (w : World) :
    (Instr.sliceAt t (.pointer (some ⟨b, 0, none⟩)) none none none).run P w = .ok (.slice (some ⟨b, 0, none⟩) n n) w := by
  have he : P.elem t = e := by simp [Program.elem, hu]
  have hn : P.arrayLen t = n := by simp [Program.arrayLen, hu]
  rw [run_sliceAt_array_all w t ⟨b, 0, none⟩ (by rw [he, hn]; exact hu)]
  rw [he, hs, Result.andThen_ok, hn]
  simp only [slicedAt]
  simp [Addr.add]
end Go.Proofs.Ytieooonobjkglaa
