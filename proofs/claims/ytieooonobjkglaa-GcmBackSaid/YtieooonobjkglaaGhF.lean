/- The contract of ghash.Sum. No condition on the world. -/
import Derived.Test.YtieooonobjkglaaGhE
namespace Go.Proofs.Ytieooonobjkglaa
open Go Go.Proofs Go.RowKit Go.Shelf SW
set_option maxRecDepth 20000
set_option maxHeartbeats 4000000
section
attribute [local go_sem] U64_xor
/-- The blocks' sum. -/
def Sx.sumOf (q : Sx.Poly) (l : List ByteArray) : Sx.Poly := l.foldl (fun o b => Sx.times (Sx.pxor o (Sx.polyOf b.data.toList)) q) (0, 0)
def Sx.sum (h a s : List UInt8) : List UInt8 := Sx.polyBlock (Sx.sumOf (Sx.polyOf h) (Sx.blocks a s))
theorem Sx.sumOf_succ (q : Sx.Poly) (l : List ByteArray) (k : Nat) (b : ByteArray) (h : l[k]? = some b) : Sx.sumOf q (l.take (k + 1)) = Sx.times (Sx.pxor (Sx.sumOf q (l.take k)) (Sx.polyOf b.data.toList)) q := by
  unfold Sx.sumOf
  rw [List.take_add_one, h, List.foldl_append]
  rfl
theorem Sx.blocks_size (a s : List UInt8) : ∀ b ∈ Sx.blocks a s, b.size = 16 := by
  have hc : ∀ (l : List UInt8) (k : Nat), (⟨(Sx.chunk l k).toArray⟩ : ByteArray).size = 16 := fun l k => by
    simp only [ByteArray.size, List.size_toArray, Sx.chunk, List.length_append, List.length_replicate]
    have : ((l.drop (16 * k)).take 16).length ≤ 16 := List.length_take_le _ _
    omega
  intro b hb
  simp only [Sx.blocks, Sx.chunks, List.mem_append, List.mem_map, List.mem_singleton] at hb
  rcases hb with (⟨k, _, rfl⟩ | ⟨k, _, rfl⟩) | rfl
  · exact hc _ _
  · exact hc _ _
  · simp [ByteArray.size, Sx.sizes, Sx.nums_length]
theorem sum_any (h a s : ByteArray) (hh : h.size = 16) (ha : a.size ≤ 100000) (hs : s.size ≤ 100000) (w : World) :
    Calls Try.prog 85 #[.string h, .string a, .string s] w fun e w' => e = .returned (.tuple #[.string ⟨(Sx.sum h.data.toList a.data.toList s.data.toList).toArray⟩, .int .i64 0]) ∧ Below w.heap.size w w' := by
  have hsz : ∀ r : Sx.Poly, (Try.prog.info? 161).map (·.size) = some (pv r).size := fun r => by show _ = some 2; kernel_rfl
  have hpv : ∀ r : Sx.Poly, (pv r).all (·.oneCell') = true := fun r => by simp [pv, Value.oneCell']
  have h16 : ((h.size : Int) != 16) = false := by rw [hh]; rfl
  have hge : 16 ≤ h.size := by omega
  clear hh
  go_enter Try.func85, Try.ntmps85
  go_wp2_with (first
    | (go_at_call 112; refine (of_any h hge _).mono ?_; rintro e w1 ⟨rfl, hk1⟩)
    | (refine wpList_store_row rfl 161 _ _ rfl w1.heap.size _ rfl rfl 161 _ (Blk.new _ _ _) (hsz _) rfl (hpv _) ?_)
    | (go_at_call 113; refine (blocks_any _ _ ha hs _).mono ?_; rintro e w2 ⟨v, rfl, hO, hW2⟩; obtain ⟨bb, cc, rfl⟩ := hO.isSlice))
  have hb1 : w.heap.size + 1 ≤ w1.heap.size := by have := hk1.size; simpa using this
  have hsR : ((w1.alloc (Obj.cells #[Value.int IntKind.u64 0, Value.int IntKind.u64 0] 161)).setRow w1.heap.size (pv (Sx.polyOf h.data.toList))).heap.size = w1.heap.size + 1 := by simp [World.setRow]
  rw [hsR] at hO hW2
  have g8 : Blk w2 w.heap.size (pv (0, 0)) 161 := ((((Blk.new _ _ _).callee hk1).alloc _).otherRow (by omega) _).below hW2 (by omega)
  have g9 : Blk w2 w1.heap.size (pv (Sx.polyOf h.data.toList)) 161 := ((Blk.new w1 _ _).row _).below hW2 (by omega)
  have gW : Below w.heap.size w w2 :=
    (below_setRow ((Below.callee ((Below.refl _ w).alloc (Nat.le_refl _) _) hk1).alloc (by omega) _) (by omega) _).trans (hW2.mono (by omega))
  obtain ⟨b9, hb9⟩ : ∃ b9, b9 = w1.heap.size := ⟨_, rfl⟩
  have hne : w.heap.size < b9 := by omega
  rw [← hb9] at g9 hO ⊢
  clear hW2 hsR hk1 hb1 hb9
  have hbs := Sx.blocks_size a.data.toList s.data.toList
  have hbl : (Sx.blocks a.data.toList s.data.toList).length < 30000 := by
    simp [Sx.blocks, Sx.chunks]; omega
  have HR : Hid (Sx.sum h.data.toList a.data.toList s.data.toList = Sx.polyBlock (Sx.sumOf (Sx.polyOf h.data.toList) (Sx.blocks a.data.toList s.data.toList))) := by exact rfl
  generalize hbq : Sx.blocks a.data.toList s.data.toList = bl at hO hbs hbl HR ⊢
  generalize hqq : Sx.polyOf h.data.toList = q at g9 HR ⊢
  clear hbq hqq
  go_loopw [22] (fun iv wr => ∃ k : Nat, k ≤ bl.length ∧ iv = .int .i64 k ∧ Blk wr w.heap.size (pv (Sx.sumOf q (bl.take k))) 161 ∧ Blk wr b9 (pv q) 161 ∧ Own wr (b9 + 1) 1 (.slice bb bl.length cc) bl.length (strs bl) ∧ Below w.heap.size w wr)
    (fun iv _ => bl.length - (intOf iv).toNat)
  case atStart => exact ⟨0, by omega, rfl, g8, g9, hO, gW⟩
  case round =>
    clear g8 g9 hO gW
    obtain ⟨k, hk, rfl, g8, g9, hO, gW⟩ := hrel
    by_cases hlt : k < bl.length
    · obtain ⟨g, cap, hbb, hgb, hgl, hcp, hcl⟩ := hO.form (by omega)
      have hbb2 : bb = some ⟨g, 0, none⟩ := by cases hbb; rfl
      have hck : bl[k]? = some bl[k] := List.getElem?_eq_getElem hlt
      have hsx := Sx.sumOf_succ q bl k _ hck
      have hb16 : 16 ≤ bl[k].size := by rw [hbs _ (List.getElem_mem hlt)]; omega
      have hcell := hcl k (.string bl[k]) (by simp [strs, hlt])
      generalize bl[k] = b at hsx hb16 hcell
      generalize Sx.sumOf q (bl.take k) = p at g8 hsx
      have HSX := Lib.hid hsx
      have HBS := Lib.hid hbs
      clear hsx hbs hck hbb hcl
      subst hbb2
      obtain ⟨r, hr⟩ : ∃ r, r = Sx.polyOf b.data.toList := ⟨_, rfl⟩
      have C1 : Hid (∀ w, Calls Try.prog 112 #[.string b] w fun e w' => e = .returned (.agg (pv r)) ∧ Below w.heap.size w w') := by
        rw [hr]; exact fun w => of_any b hb16 w
      rw [← hr] at HSX
      clear hr
      go_wp2_with (first
        | (go_at_call 112; refine (C1.out _).mono ?_; rintro e w3 ⟨rfl, hk1⟩)
        | (refine wpList_store_row rfl 161 _ _ rfl w3.heap.size _ rfl rfl 161 _ (Blk.new _ _ _) (hsz _) rfl (hpv _) ?_
           have hs3 := hk1.size
           have g8a : Blk ((w3.alloc (Obj.cells #[Value.int IntKind.u64 0, Value.int IntKind.u64 0] 161)).setRow w3.heap.size (pv r)) w.heap.size (pv p) 161 := ((g8.callee hk1).alloc _).otherRow (by have := g8.lt; omega) _
           have g9a : Blk ((w3.alloc (Obj.cells #[Value.int IntKind.u64 0, Value.int IntKind.u64 0] 161)).setRow w3.heap.size (pv r)) b9 (pv q) 161 := ((g9.callee hk1).alloc _).otherRow (by have := g9.lt; omega) _
           have gra : Blk ((w3.alloc (Obj.cells #[Value.int IntKind.u64 0, Value.int IntKind.u64 0] 161)).setRow w3.heap.size (pv r)) w3.heap.size (pv r) 161 := (Blk.new _ _ _).row _
           have gOa : Own ((w3.alloc (Obj.cells #[Value.int IntKind.u64 0, Value.int IntKind.u64 0] 161)).setRow w3.heap.size (pv r)) (b9 + 1) 1 (.slice (some ⟨g, 0, none⟩) bl.length cc) bl.length (strs bl) := ((hO.below hk1).alloc _).otherRow (fun k hk => by have := (hO.blk hk).2; omega) _
           have gWa : Below w.heap.size w ((w3.alloc (Obj.cells #[Value.int IntKind.u64 0, Value.int IntKind.u64 0] 161)).setRow w3.heap.size (pv r)) := below_setRow ((Below.callee gW hk1).alloc (by have := gW.size; omega) _) (by have := gW.size; omega) _
           obtain ⟨W4, hW4⟩ : ∃ W4, ((w3.alloc (Obj.cells #[Value.int IntKind.u64 0, Value.int IntKind.u64 0] 161)).setRow w3.heap.size (pv r)) = W4 := ⟨_, rfl⟩
           rw [hW4] at g8a g9a gra gOa gWa ⊢
           have c1 : W4.cell? ⟨w.heap.size, 0, none⟩ = some (.int .u64 (U64 p.1)) := g8a.cell (k := 0) rfl
           have c2 : W4.cell? ⟨w.heap.size, 1, none⟩ = some (.int .u64 (U64 p.2)) := g8a.cell (k := 1) rfl
           have c3 : W4.cell? ⟨w3.heap.size, 0, none⟩ = some (.int .u64 (U64 r.1)) := gra.cell (k := 0) rfl
           have c4 : W4.cell? ⟨w3.heap.size, 1, none⟩ = some (.int .u64 (U64 r.2)) := gra.cell (k := 1) rfl
           clear hW4 gra hk1 g8 g9 hO gW hcell)
        | (refine wpList_load_row rfl 161 _ rfl b9 rfl 161 _ (0, 0) _ g9a Try.underlying161 rfl (hsz _) ?_)
        | (go_at_call 114; refine (times_any (Sx.pxor p r) q _).mono ?_; rintro e w5 ⟨rfl, hk5⟩; clear c1 c2 c3 c4)
        | (refine wpList_store_row rfl 161 _ _ rfl w.heap.size _ rfl rfl 161 _ (g8a.callee hk5) (hsz _) rfl (hpv _) ?_))
      go_roundw
      case rel =>
        refine ⟨k + 1, by omega, by go_num, ?_, (g9a.callee hk5).otherRow (by omega) _, (gOa.below hk5).otherRow (fun k hk => by have := (gOa.blk hk).1; omega) _, below_setRow (Below.callee gWa hk5) (Nat.le_refl _) _⟩
        rw [HSX.out]
        exact (g8a.callee hk5).row _
      case measure => simp [intOf]; omega
    · obtain rfl : k = bl.length := by omega
      rw [List.take_length] at g8
      go_wp2_with (first
        | (refine wpList_load_row rfl 161 _ rfl w.heap.size rfl 161 _ (0, 0) _ g8 Try.underlying161 rfl (hsz _) ?_)
        | (go_at_call 115; refine (block_any _ _).mono ?_; rintro e w5 ⟨rfl, hk5⟩))
      go_ret2
      rw [HR.out]
      exact ⟨rfl, Below.callee gW hk5⟩
end
end Go.Proofs.Ytieooonobjkglaa
