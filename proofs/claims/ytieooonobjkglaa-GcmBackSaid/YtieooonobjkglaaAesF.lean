/- The contract of aes.Encrypt: at keys of 16 and of 32 bytes, of one block. No condition on the world. -/
import Derived.Test.YtieooonobjkglaaAesK4
import Derived.Test.YtieooonobjkglaaAesK8
namespace Go.Proofs.Ytieooonobjkglaa
open Go Go.Proofs Go.RowKit SW
set_option maxRecDepth 20000
set_option maxHeartbeats 8000000

/-- One block of AES under a key of 4 k bytes, as bytes. -/
def Sx.aes (k : Nat) (key block : List UInt8) : List UInt8 := crypt (k + 7) (fun j => keyAt k key j) block
theorem Sx.aes_length (k : Nat) (key block : List UInt8) : (Sx.aes k key block).length = 16 := by
  unfold Sx.aes Sx.crypt
  exact Sx.rounds_length _ _ _ (Sx.withKey_length _ _) _

theorem encrypt_of (k : Nat) (hk1 : 2 ≤ k + 7) (hk2 : k + 7 ≤ 100) (key s : ByteArray) (hkey : key.size = 4 * k) (hs : s.size = 16) (w : World)
    (hkeys : Calls Try.prog 48 #[.string key] w fun e w' => ∃ g cap, e = .returned (.tuple #[.slice (some ⟨g, 0, none⟩) (k + 7) cap, .int .i64 0]) ∧ w.heap.size ≤ g ∧ k + 7 ≤ cap ∧
      (∀ j, j < k + 7 → w'.cell? ⟨g, j, none⟩ = some (.string ⟨(Sx.keyAt k key.data.toList j).toArray⟩)) ∧ Below w.heap.size w w') :
    Calls Try.prog 17 #[.string key, .string s] w fun e w' => e = .returned (.tuple #[.string ⟨(Sx.aes k key.data.toList s.data.toList).toArray⟩, .int .i64 0]) ∧ Below w.heap.size w w' := by
  go_enter Try.func17, Try.ntmps17
  go_wp2_with (first
    | (go_at_call 48; refine hkeys.mono ?_; rintro e w1 ⟨g, cap, rfl, hg, hcap, hcells, hW⟩))
  have hlen : ∀ j, j < k + 7 → (ByteArray.mk (Sx.keyAt k key.data.toList j).toArray).size = 16 := fun j hj => by
    have := Sx.keyAt_length k key.data.toList (by simpa using hkey) j hj
    simpa [ByteArray.size] using this
  have hst : ∀ j, j < k + 7 → (w1.alloc (Obj.cells #[Value.slice (some { block := g, off := 0 }) (k + 7) cap] 88)).cell? ⟨g, j, none⟩ = some (.string ⟨(Sx.keyAt k key.data.toList j).toArray⟩) := fun j hj => by
    rw [World.cell?_alloc_lt _ _ _ (World.block_lt_of_cell? _ _ (hcells j hj))]
    exact hcells j hj
  refine (done_any s hs (k + 7) (fun j => ⟨(Sx.keyAt k key.data.toList j).toArray⟩) w1.heap.size g cap hk1 hk2 hlen _ ((Blk.new w1 _ _).cell (k := 0) rfl) hcap hst).mono ?_
  rintro e w2 ⟨rfl, hW2⟩
  go_wp2
  go_ret2
  exact ⟨rfl, (hW.alloc hW.size _).trans (hW2.mono (by have := hW.size; simp; omega))⟩

theorem encrypt_any (k : Nat) (hk : k = 4 ∨ k = 8) (key s : ByteArray) (hkey : key.size = 4 * k) (hs : s.size = 16) (w : World) :
    Calls Try.prog 17 #[.string key, .string s] w fun e w' => e = .returned (.tuple #[.string ⟨(Sx.aes k key.data.toList s.data.toList).toArray⟩, .int .i64 0]) ∧ Below w.heap.size w w' := by
  rcases hk with rfl | rfl
  · exact encrypt_of 4 (by omega) (by omega) key s hkey hs w (K4.keys key hkey w)
  · exact encrypt_of 8 (by omega) (by omega) key s hkey hs w (K8.keys key hkey w)
end Go.Proofs.Ytieooonobjkglaa
