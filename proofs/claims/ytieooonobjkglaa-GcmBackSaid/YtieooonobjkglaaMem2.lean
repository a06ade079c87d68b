/- More words for blocks: bytes turned into strings. No condition. -/
import Derived.Test.YtieooonobjkglaaMem
namespace Go.Proofs.Ytieooonobjkglaa
open Go Go.RowKit SW
/-- 'string(b)', b the first n cells of a block that holds the bytes l. -/
theorem bytes_back {P : Program} (src dst e : TypeId) (hs : P.underlying src = some (.slice e)) (he : P.underlying e = some (.int .u8)) (hd : P.underlying dst = some .string)
    {W : World} {b : Nat} {l : List UInt8} {T : TypeId} (h : Blk W b (bv l) T) (n cap : Nat) (hn : l.length = n) :
    (convert src dst (.slice (some ⟨b, 0, none⟩) n cap)).run P W = .ok (.string ⟨l.toArray⟩) W := by
  subst hn
  refine run_convert_bytes_back W src dst e ⟨b, 0, none⟩ cap l hs he hd (fun j hj => ?_)
  have := h.cell (bv_get l j hj)
  rw [Addr.add_mid, Nat.zero_add]
  exact this
/-- The same, from a place on. -/
theorem bytes_back_at {P : Program} (src dst e : TypeId) (hs : P.underlying src = some (.slice e)) (he : P.underlying e = some (.int .u8)) (hd : P.underlying dst = some .string)
    {W : World} {b o : Nat} {l : List UInt8} (h : ∀ j (hj : j < l.length), W.cell? ⟨b, o + j, none⟩ = some (.int .u8 (U8 l[j]))) (n cap : Nat) (hn : l.length = n) :
    (convert src dst (.slice (some ⟨b, o, none⟩) n cap)).run P W = .ok (.string ⟨l.toArray⟩) W := by
  subst hn
  refine run_convert_bytes_back W src dst e ⟨b, o, none⟩ cap l hs he hd (fun j hj => ?_)
  rw [Addr.add_mid]
  exact h j hj
end Go.Proofs.Ytieooonobjkglaa
