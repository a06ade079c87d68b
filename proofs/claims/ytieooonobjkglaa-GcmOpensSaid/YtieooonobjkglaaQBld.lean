/- Words for a strings.Builder that the call has made. No condition. -/
import Derived.Test.YtieooonobjkglaaQGh
import Derived.Shelf.Strings.BuilderK
import Derived.Shelf.Strings.BuilderF
namespace Go.Proofs.Ytieooonobjkglaa
open Go Go.Proofs Go.RowKit Go.Shelf SW
/-- A builder in block b that holds the bytes l. -/
def Bld (B b : Nat) (l : List UInt8) (w : World) : Prop := Lib.IsBuilderF 80 5 B b (Lib.byteCells l) w
theorem bytes_cells_append (l : List UInt8) (s : ByteArray) : Lib.byteCells l ++ Lib.strCells s = Lib.byteCells (l ++ s.data.toList) := by
  simp [Lib.byteCells, Lib.strCells]
theorem bytes_cells_length (l : List UInt8) : (Lib.byteCells l).length = l.length := by simp [Lib.byteCells]
namespace Bld
variable {B b : Nat} {l : List UInt8} {w w' : World}
theorem new (w : World) (hB : B ≤ w.heap.size) : Bld B w.heap.size [] (w.alloc (.cells #[.pointer none, .slice none 0 0] 80)) :=
  Lib.IsBuilderF.of (.inl ⟨hB, _, heap_alloc_new w _, World.ownsRow_nil _ _ _ _, by simp [Value.ownBlock]⟩)
theorem below (h : Bld B b l w) (hb : Below w.heap.size w w') : Bld B b l w' := by
  have one : ∀ p, Lib.BuilderAtF 80 5 B b p (Lib.byteCells l) w → Lib.BuilderAtF 80 5 B b p (Lib.byteCells l) w' := by
    intro p h
    obtain ⟨hB, v, hv, hown, hne⟩ := h
    exact ⟨hB, v, (hb.block b (Array.getElem?_eq_some_iff.1 hv).1).trans hv, hown.kept (row := none) ⟨hb.os, hb.tape, hb.output, hb.size, fun k hk _ => hb.block k hk⟩ (Classical.em _), hne⟩
  exact Or.elim h (fun x => .inl (one _ x)) (fun x => .inr (one _ x))
end Bld
theorem bld_len (B b : Nat) (l : List UInt8) (w : World) (h : Bld B b l w) : Calls Try.prog 46 #[.pointer (some ⟨b, 0, none⟩)] w fun e w' => e = .returned (.int .i64 l.length) ∧ w = w' := by
  have := Try.Builder_Len_f B b _ w h
  rw [bytes_cells_length] at this
  exact this.mono fun _ _ h => ⟨h.1, h.2.symm⟩
theorem bld_write (B b : Nat) (l : List UInt8) (s : ByteArray) (w : World) (h : Bld B b l w) (hn : l.length + s.size ≤ 140737488355328) (hB : B ≤ w.heap.size) :
    Calls Try.prog 45 #[.pointer (some ⟨b, 0, none⟩), .string s] w fun e w' => e = .returned (.tuple #[.int .i64 s.size, .nilIface]) ∧ Bld B b (l ++ s.data.toList) w' ∧ Below B w w' ∧ Lib.OthersKept 5 (some b) w w' := by
  have := Any.Builder_WriteString_k { Try.lays105 with } Try.Builder_Extra_105 B b _ s w h (by rw [bytes_cells_length]; exact hn) hB
  refine Calls.mono this ?_
  rintro e w1 ⟨h1, h2, h3, h4⟩
  refine ⟨h1, ?_, h3, h4⟩
  unfold Bld
  rw [← bytes_cells_append]
  exact .inr h2
theorem bld_string (B b : Nat) (l : List UInt8) (w : World) (h : Bld B b l w) (hB : B ≤ w.heap.size) :
    Calls Try.prog 47 #[.pointer (some ⟨b, 0, none⟩)] w fun e w' => e = .returned (.string ⟨l.toArray⟩) ∧ Bld B b l w' ∧ Below B w w' ∧ Lib.OthersKept 5 (some b) w w' :=
  Any.Builder_String_any_k { Try.lays105 with } Try.Builder_Extra_105 B b l w h hB
/-- A block of another type beside a builder's write. -/
theorem Blk.others {w w' : World} {b k : Nat} {cs : Array Value} {T : TypeId} (h : Blk w k cs T) (ho : Lib.OthersKept 5 (some b) w w') (hk : k ≠ b) (hT : T ≠ 5) : Blk w' k cs T :=
  ho k _ h (by simpa using hk) (fun c fz e => by cases e; exact hT rfl)
end Go.Proofs.Ytieooonobjkglaa
