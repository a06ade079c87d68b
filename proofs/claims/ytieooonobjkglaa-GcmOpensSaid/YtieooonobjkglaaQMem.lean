/- Words for a block of cells that a call has made: what it holds, behind stores, new blocks, draws and calls. No condition. -/
import Derived.Test.YtieooonobjkglaaQB
import Derived.OneCell
import Derived.Laws.Rows
import Derived.Laws.Tables
import Derived.StillTailTactics
import Derived.LoopN
import Derived.Laws.Cover3
import Derived.Laws.IdiomStrings
import Derived.Deep.MidRow
namespace Go.Proofs.Ytieooonobjkglaa
open Go Go.RowKit SW

/-- Block b of w is a row of the cells cs, of type T, none of them frozen. -/
def Blk (w : World) (b : Nat) (cs : Array Value) (T : TypeId) : Prop := w.heap[b]? = some (.cells cs T (0, 0))
namespace Blk
variable {w w' : World} {b : Nat} {cs : Array Value} {T : TypeId}
theorem cell (h : Blk w b cs T) {k : Nat} {v : Value} (hk : cs[k]? = some v) : w.cell? ⟨b, k, none⟩ = some v := by
  rw [cell_of_row w b k cs T (0, 0) h]; exact hk
theorem free (h : Blk w b cs T) (k : Nat) : w.frozen? ⟨b, k, none⟩ = false := by
  have h' : w.heap[b]? = some (.cells cs T (0, 0)) := h
  simp [World.frozen?, h']
theorem lt (h : Blk w b cs T) : b < w.heap.size := lt_of_block h
theorem set (h : Blk w b cs T) (k : Nat) (v : Value) : Blk (w.setCell ⟨b, k, none⟩ v) b (cs.setIfInBounds k v) T := by
  have hlt := h.lt
  have h' : w.heap[b] = .cells cs T (0, 0) := by have h' : w.heap[b]? = _ := h; simpa [Array.getElem?_eq_getElem hlt] using h'
  show (w.heap.modify b _)[b]? = _
  rw [Array.getElem?_eq_getElem (by simpa using hlt), Array.getElem_modify_self, h']
  rfl
theorem row (h : Blk w b cs T) (cs' : Array Value) : Blk (w.setRow b cs') b cs' T := setRow_heap w b cs cs' T (0, 0) h
theorem other (h : Blk w b cs T) {a : Addr} (hne : b ≠ a.block) (v : Value) : Blk (w.setCell a v) b cs T := by
  unfold Blk
  rw [Below.heap_setCell _ _ _ _ hne]; exact h
theorem otherRow (h : Blk w b cs T) {b' : Nat} (hne : b' ≠ b) (cs' : Array Value) : Blk (w.setRow b' cs') b cs T := by
  unfold Blk
  simp only [World.setRow, Array.getElem?_modify]
  rw [if_neg hne]; exact h
theorem alloc (h : Blk w b cs T) (o : Obj) : Blk (w.alloc o) b cs T := by
  unfold Blk
  rw [Below.heap_alloc _ _ _ h.lt]; exact h
theorem drew (h : Blk w b cs T) : Blk w.drew b cs T := h
theorem drewN (h : Blk w b cs T) (n : Nat) : Blk (w.drewN n) b cs T := h
theorem below {B : Nat} (h : Blk w b cs T) (hb : Below B w w') (hlt : b < B) : Blk w' b cs T := by
  unfold Blk
  rw [hb.block b hlt]; exact h
theorem new (w : World) (cs : Array Value) (T : TypeId) : Blk (w.alloc (.cells cs T)) w.heap.size cs T := heap_alloc_new w _
end Blk

theorem below_setRow {B : Nat} {a w : World} (h : Below B a w) {b : Nat} (hb : B ≤ b) (cs : Array Value) : Below B a (w.setRow b cs) :=
  h.trans ⟨rfl, rfl, rfl, by simp [World.setRow], fun k hk => by
    simp only [World.setRow, Array.getElem?_modify]
    rw [if_neg (by omega)]⟩

theorem wp_tail {P : Program} {id : Nat} {Q : Exit → Act → World → Prop} {a : Act} {w : World} {l : List Oper} (n : Nat) (hm : P.follows .mixedOrders = true) (hB : Region.lexTailB .any l.toArray n = true)
    (h : wpStill P l.toArray w.drew (fun a' => wpList P l.toArray Q (l.drop n) a' w.drew) (l.take n) a) : (Code.region id l.toArray true).wp P Q a w := wp_region_still_tail n hm hB h
/-- In a region's head that only reads: a whole row, or struct, out of a block. -/
theorem still_load_blk {P : Program} {ops : Array Oper} {w : World} {Q : Act → Prop} {a : Act} {o : Oper} {rest : List Oper} (hgd : o.guard = none) (ty : TypeId) (x : Operand) (ho : o.op = .load ty x)
    (b : Nat) (hx : a.eval x = .pointer (some ⟨b, 0, none⟩)) (T : TypeId) (cs : Array Value) (d : TypeDesc) (h : Blk w b cs T)
    (hu : P.underlying ty = some d) (hd : (match d with | .struct _ | .array _ _ => true | _ => false) = true) (hi : (P.info? ty).map (·.size) = some cs.size)
    (k : wpStill P ops w Q rest (a.put o.dst (.agg cs))) : wpStill P ops w Q (o :: rest) a := by
  unfold wpStill
  rw [if_pos (by simp [Region.wanted, hgd])]
  unfold Oper.still execOp
  simp only [ho, hx, Instr.loadAt, Instr.sureAddr, Sem.run_bind, Sem.run_pure, Result.andThen_ok, run_loadVar_row w b T ty cs (0, 0) d h hu hd hi]
  exact ⟨rfl, k⟩
theorem ba_lit (a : Array UInt8) (i : Nat) (h : i < (⟨a⟩ : ByteArray).size) : (⟨a⟩ : ByteArray)[i]'h = a[i]'h := rfl

theorem str_getD (s : ByteArray) (k : Nat) (h : k < s.size) : s.data.toList.getD k 0 = s[k] := by
  have hk : k < s.data.toList.length := by simpa using h
  rw [List.getD_eq_getElem?_getD, List.getElem?_eq_getElem hk]
  rfl

/-- A part of an array of one-cell elements, as a slice. -/
theorem slice_arr {P : Program} (t e : TypeId) (n b l h : Nat) (li hi : Int) (hl : li = (l : Int)) (hh : hi = (h : Int)) (hu : P.underlying t = some (.array n e)) (hs : ∀ w, (Go.sizeOf e).run P w = .ok 1 w) (hlh : l ≤ h) (hhn : h ≤ n) (hln : l < n) (w : World) :
    (Instr.sliceAt t (.pointer (some ⟨b, 0, none⟩)) (some (.int .i64 li)) (some (.int .i64 hi)) none).run P w = .ok (.slice (some ⟨b, l, none⟩) (h - l) (n - l)) w := by
  subst hl hh
  have he : P.elem t = e := by simp [Program.elem, hu]
  have hn : P.arrayLen t = n := by simp [Program.arrayLen, hu]
  rw [run_sliceAt_array_lh w t ⟨b, 0, none⟩ (by rw [he, hn]; exact hu) .i64 .i64 l h (by omega) (by omega) (by omega)]
  rw [he, hs, Result.andThen_ok, hn]
  simp only [slicedAt, Int.toNat_natCast]
  rw [if_neg (by omega)]
  simp [Addr.add]
  omega
/-- Bytes as cells. -/
def bv (l : List UInt8) : Array Value := (l.map fun x => Value.int .u8 (U8 x)).toArray
theorem bv_size (l : List UInt8) : (bv l).size = l.length := by simp [bv]
theorem bv_get (l : List UInt8) (k : Nat) (h : k < l.length) : (bv l)[k]? = some (.int .u8 (U8 l[k])) := by simp [bv, h]
theorem bv_set (l : List UInt8) (k : Nat) (x : UInt8) : (bv l).setIfInBounds k (.int .u8 (U8 x)) = bv (l.set k x) := by
  simp [bv, List.map_set]
theorem bv_one (l : List UInt8) : (bv l).all (·.oneCell') = true := by
  simp [bv, Value.oneCell']
theorem bv_toList (s : ByteArray) : bv s.data.toList = s.data.map (fun b => Value.int .u8 b.toNat) := by
  simp only [bv]
  apply Array.ext'
  simp [U8]
/-- The cells that a string's conversion to bytes lays. -/
theorem bytes_cell (s : ByteArray) (W : World) (b cap : Nat) (e : TypeId) (fr : Nat × Nat) (h : W.heap[b]? = some (.cells (bytesRow s cap) e fr)) (j : Nat) (hj : j < s.size) : W.cell? ⟨b, j, none⟩ = some (.int .u8 (U8 s[j])) := by
  rw [cell_of_row W b j _ e fr h]
  unfold bytesRow
  rw [Array.getElem?_append_left (by simpa using hj)]
  simp [hj, U8]
  rfl
theorem bytes_range (s : ByteArray) (W : World) (b cap : Nat) (e : TypeId) (fr : Nat × Nat) (h : W.heap[b]? = some (.cells (bytesRow s cap) e fr)) : W.rangeAt b 0 (bv s.data.toList).toList := by
  intro j v hv
  have hj : j < s.size := by
    have := (List.getElem?_eq_some_iff.1 hv).1
    simpa [bv] using this
  rw [Nat.zero_add, bytes_cell s W b cap e fr h j hj]
  rw [← hv]
  simp [bv, hj]
  rfl
end Go.Proofs.Ytieooonobjkglaa
namespace Go.Proofs.Ytieooonobjkglaa
open Go Go.RowKit SW
/-- 'string(b)', b the first n cells of a block that holds the bytes l. -/
theorem bytes_back {P : Program} (src dst e : TypeId) (hs : P.underlying src = some (.slice e)) (he : P.underlying e = some (.int .u8)) (hd : P.underlying dst = some .string)
    {W : World} {b : Nat} {l : List UInt8} {T : TypeId} (h : Blk W b (bv l) T) (n cap : Nat) (hn : l.length = n) :
    (convert src dst (.slice (some ⟨b, 0, none⟩) n cap)).run P W = .ok (.string ⟨l.toArray⟩) W := by
  subst hn
  refine run_convert_bytes_back W src dst e ⟨b, 0, none⟩ cap l hs he hd (fun j hj => ?_)
  have := h.cell (bv_get l j hj)
  rw [Addr.add_mid, Nat.zero_add]
  exact this
/-- The same, from a place on. -/
theorem bytes_back_at {P : Program} (src dst e : TypeId) (hs : P.underlying src = some (.slice e)) (he : P.underlying e = some (.int .u8)) (hd : P.underlying dst = some .string)
    {W : World} {b o : Nat} {l : List UInt8} (h : ∀ j (hj : j < l.length), W.cell? ⟨b, o + j, none⟩ = some (.int .u8 (U8 l[j]))) (n cap : Nat) (hn : l.length = n) :
    (convert src dst (.slice (some ⟨b, o, none⟩) n cap)).run P W = .ok (.string ⟨l.toArray⟩) W := by
  subst hn
  refine run_convert_bytes_back W src dst e ⟨b, o, none⟩ cap l hs he hd (fun j hj => ?_)
  rw [Addr.add_mid]
  exact h j hj
end Go.Proofs.Ytieooonobjkglaa
