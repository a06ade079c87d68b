/- The contracts of a block's encryption. -/
import Derived.Test.YtieooonobjkglaaAesE
import Derived.Test.YtieooonobjkglaaMem2
namespace Go.Proofs.Ytieooonobjkglaa
open Go Go.Proofs Go.RowKit SW
attribute [local go_sem] U8_xor U8_fold
set_option maxRecDepth 20000
set_option maxHeartbeats 2000000

theorem done_any (s : ByteArray) (hs : s.size = 16) (n : Nat) (kb : Nat → ByteArray) (bk g cap : Nat) (hn : 2 ≤ n) (hn2 : n ≤ 100) (hk : ∀ j, j < n → (kb j).size = 16) (w : World)
    (hbk : w.cell? ⟨bk, 0, none⟩ = some (.slice (some ⟨g, 0, none⟩) n cap)) (hcap : n ≤ cap) (hst : ∀ j, j < n → w.cell? ⟨g, j, none⟩ = some (.string (kb j))) :
    Calls Try.prog 49 #[.string s, .func (.func 50) #[] #[.pointer (some ⟨bk, 0, none⟩)]] w fun e w' => e = .returned (.tuple #[.string ⟨(Sx.crypt n (fun j => (kb j).data.toList) s.data.toList).toArray⟩, .int .i64 0]) ∧ Below w.heap.size w w' := by
  have hconv := run_bytes_of_string w 9 32 5 s Try.underlying9 Try.underlying32 Try.underlying5
  generalize hcp : grownCap w s.size 0 5 = cp at hconv
  generalize hbr : bytesRow s cp = br at hconv
  have hnew := heap_alloc_new w.drew (Obj.cells br 5 (br.size, br.size + 1))
  have hW := (Below.refl w.heap.size w).drew.alloc (Nat.le_refl _) (Obj.cells br 5 (br.size, br.size + 1))
  generalize w.drew.alloc (Obj.cells br 5 (br.size, br.size + 1)) = W0 at hconv hnew hW
  rw [← hbr] at hnew
  have hrg := bytes_range s W0 w.heap.size cp _ _ hnew
  have har : ∀ W, (Instr.arrayAt 93 (.slice (some ⟨w.heap.size, 0, none⟩) s.size cp)).run Try.prog W = .ok (.pointer (some ⟨w.heap.size, 0, none⟩)) W := fun W => run_arrayAt (w := W) 93 5 16 _ _ _ Try.underlying93 (by omega)
  have hb0 := World.block_lt_of_cell? w _ hbk
  have c1 := (hW.cell (p := ⟨bk, 0, none⟩) hb0).trans hbk
  have cst : ∀ j, j < n → W0.cell? ⟨g, j, none⟩ = some (.string (kb j)) := fun j hj => (hW.cell (p := ⟨g, j, none⟩) (World.block_lt_of_cell? w _ (hst j hj))).trans (hst j hj)
  have hlen : s.data.toList.length = 16 := by simpa using hs
  have hne : ((s.size : Int) != 16) = false := by rw [bne_eq_false_iff_eq]; omega
  have CST := Lib.hid cst
  have HST := Lib.hid hst
  have HLEN := Lib.hid hlen
  have HC := Lib.hid (Sx.rounds_length n (fun j => (kb j).data.toList) (Sx.withKey s.data.toList (kb 0).data.toList) (Sx.withKey_length _ _) (n - 1))
  change Hid ((Sx.crypt n (fun j => (kb j).data.toList) s.data.toList).length = 16) at HC
  have HS := Lib.hid hs
  clear cst hst hbr hcp hlen hs hnew
  go_enter Try.func49, Try.ntmps49
  go_wp2_with (first
    | (refine wpList_load_mid rfl 93 _ rfl w.heap.size 0 rfl (bv s.data.toList).toList _ hrg Try.underlying93 rfl (by rw [Array.length_toList, bv_size, HLEN.out]; kernel_rfl) ?_)
    | (go_at_call 50; refine (rounds_any _ HLEN.out n kb bk g cap hn hn2 hk _ c1 hcap CST.out).mono ?_; rintro e w1 ⟨rfl, hb⟩)
    | (refine wpList_store_row rfl 93 _ _ rfl w1.heap.size _ rfl rfl 93 #[Value.int IntKind.u8 0, Value.int IntKind.u8 0, Value.int IntKind.u8 0, Value.int IntKind.u8 0, Value.int IntKind.u8 0, Value.int IntKind.u8 0, Value.int IntKind.u8 0, Value.int IntKind.u8 0, Value.int IntKind.u8 0, Value.int IntKind.u8 0, Value.int IntKind.u8 0, Value.int IntKind.u8 0, Value.int IntKind.u8 0, Value.int IntKind.u8 0, Value.int IntKind.u8 0, Value.int IntKind.u8 0] (heap_alloc_new w1 _) (size93 _ HC.out) (by rw [bv_size, HC.out]; rfl) (bv_one _) ?_;
       have hB := (Blk.new w1 #[Value.int IntKind.u8 0, Value.int IntKind.u8 0, Value.int IntKind.u8 0, Value.int IntKind.u8 0, Value.int IntKind.u8 0, Value.int IntKind.u8 0, Value.int IntKind.u8 0, Value.int IntKind.u8 0, Value.int IntKind.u8 0, Value.int IntKind.u8 0, Value.int IntKind.u8 0, Value.int IntKind.u8 0, Value.int IntKind.u8 0, Value.int IntKind.u8 0, Value.int IntKind.u8 0, Value.int IntKind.u8 0] 93).row (bv (Sx.crypt n (fun j => (kb j).data.toList) s.data.toList));
       have hW2 := below_setRow ((hW.trans (hb.mono hW.size)).alloc (Nat.le_trans hW.size hb.size) (Obj.cells #[Value.int IntKind.u8 0, Value.int IntKind.u8 0, Value.int IntKind.u8 0, Value.int IntKind.u8 0, Value.int IntKind.u8 0, Value.int IntKind.u8 0, Value.int IntKind.u8 0, Value.int IntKind.u8 0, Value.int IntKind.u8 0, Value.int IntKind.u8 0, Value.int IntKind.u8 0, Value.int IntKind.u8 0, Value.int IntKind.u8 0, Value.int IntKind.u8 0, Value.int IntKind.u8 0, Value.int IntKind.u8 0] 93)) (b := w1.heap.size) (Nat.le_trans hW.size hb.size) (bv (Sx.crypt n (fun j => (kb j).data.toList) s.data.toList));
       generalize World.setRow _ w1.heap.size (bv (Sx.crypt n (fun j => (kb j).data.toList) s.data.toList)) = W2 at hB hW2 ⊢;
       have hback := bytes_back 32 9 5 Try.underlying32 Try.underlying5 Try.underlying9 hB 16 16 HC.out))
  go_ret2
  exact ⟨rfl, hW2⟩
end Go.Proofs.Ytieooonobjkglaa
