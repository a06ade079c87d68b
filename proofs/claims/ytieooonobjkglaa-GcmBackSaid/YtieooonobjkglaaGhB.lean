/- The contracts of GHASH's blocks: filled's iterator. No condition on the world. -/
import Derived.Test.YtieooonobjkglaaGhA
import Derived.Test.YtieooonobjkglaaSeq
import Derived.Test.YtieooonobjkglaaShelf
import Derived.Shelf.Abstract
import Derived.Shelf.RegionOpen
import Derived.WalkKit
import Derived.OwnWalkIn
import Derived.TacticsInMore
import Derived.LoopNIn
import Derived.LoopIn
namespace Go.Proofs.Ytieooonobjkglaa
open Go Go.Proofs Go.RowKit Go.Shelf SW
set_option maxRecDepth 20000
set_option maxHeartbeats 4000000
attribute [local go_sem] Oper.semAt_some

/-- A text's k-th block, filled. -/
def Sx.chunk (s : List UInt8) (k : Nat) : List UInt8 := (s.drop (16 * k)).take 16 ++ List.replicate (16 - ((s.drop (16 * k)).take 16).length) 0
def Sx.chunks (s : List UInt8) : List ByteArray := (List.range ((s.length + 15) / 16)).map fun k => ⟨(Sx.chunk s k).toArray⟩
theorem ext_end (s : ByteArray) (a : Nat) : (s.extract a s.size).data.toList = s.data.toList.drop a := by
  simp [ByteArray.data_extract]
  apply List.take_of_length_le
  have : s.data.size = s.size := rfl
  simp [this]
theorem ext_upto (s : ByteArray) (k : Nat) : (s.extract 0 k).data.toList = s.data.toList.take k := by simp [ByteArray.data_extract]
def leftIn (W : World) (b : Nat) : Nat := match W.cell? ⟨b, 0, none⟩ with | some (.string t) => t.size | _ => 0

theorem leftIn_blk {W : World} {b : Nat} {t : ByteArray} {T : TypeId} (h : Blk W b #[.string t] T) : leftIn W b = t.size := by
  unfold leftIn
  rw [show W.cell? ⟨b, 0, none⟩ = some (.string t) from h.cell (k := 0) rfl]

theorem filled1 (s : ByteArray) (hs : s.size ≤ 100000) (n : Nat) (hn : 1 ≤ n) (Bn : Nat) :
    Rounds n Try.prog 173 #[.pointer (some ⟨Bn, 0, none⟩)] (fun x : ByteArray => #[.string x]) (Sx.chunks s.data.toList) Bn (.cells #[.string s] 9 (0, 0)) := by
  intro l J W hB hJb hJs hY h0
  refine callsIn_of_wp Try.func173 rfl trivial ?_ rfl
  simp only [Try.ntmps173, List.size_toArray, List.length_cons, List.length_nil, Nat.reduceAdd, Nat.reduceSub, Array.replicate_succ, Array.replicate_zero, List.push_toArray, List.append_toArray, List.nil_append, List.cons_append]
  gi_wp2
  gi_loopw [3] (fun _ wr => ∃ k : Nat, k ≤ (s.size + 15) / 16 ∧ Blk wr Bn #[.string (s.extract (16 * k) s.size)] 9 ∧ J k wr) (fun _ wr => leftIn wr Bn)
  case atStart =>
    exact ⟨0, by omega, by rw [show s.extract (16 * 0) s.size = s by simp]; exact hB, h0⟩
  case round =>
    clear hB h0
    obtain ⟨k, hk, hB, hJ⟩ := hrel
    have hts : (s.extract (16 * k) s.size).size = s.size - 16 * k := by simp
    by_cases hlt : 16 * k < s.size
    · have hkm : k < (s.size + 15) / 16 := by omega
      have hrest : (s.extract (16 * k) s.size).extract (min (s.size - 16 * k) 16) (s.size - 16 * k) = s.extract (16 * (k + 1)) s.size := by
        rw [ByteArray.extract_extract]
        by_cases h : s.size - 16 * k < 16
        · rw [Nat.min_eq_left (by omega)]
          apply ByteArray.ext
          simp only [ByteArray.data_extract]
          rw [Array.extract_empty_of_stop_le_start (by omega), Array.extract_empty_of_stop_le_start (by omega)]
        · rw [Nat.min_eq_right (by omega), Nat.min_eq_right (by omega)]
          rfl
      have hxk : (Sx.chunks s.data.toList)[k]? = some ((s.extract (16 * k) s.size).extract 0 (min (s.size - 16 * k) 16) ++ ⟨(Lib.repeatL [0] (16 - min (s.size - 16 * k) 16)).toArray⟩) := by
        have hl : s.data.toList.length = s.size := by simp
        unfold Sx.chunks
        rw [hl, List.getElem?_map, List.getElem?_range hkm, Option.map_some]
        congr 1
        apply ByteArray.ext
        apply Array.toList_inj.1
        simp only [ByteArray.data_append, Array.toList_append, ext_upto, ext_end, Sx.chunk]
        have hlen : ((s.data.toList.drop (16 * k)).take 16).length = min (s.size - 16 * k) 16 := by simp [hl]; omega
        rw [hlen, show ([0] : List UInt8) = List.replicate 1 0 from rfl, Lib.repeatL_replicate, Nat.mul_one]
        congr 1
        rw [List.take_eq_take_iff]
        simp [hl]
        omega
      have hz : (s.extract (16 * k) s.size).size = s.size - 16 * k := hts
      generalize hr : s.extract (16 * (k + 1)) s.size = r at hrest
      have HR := Lib.hid hr
      clear hts hr
      generalize s.extract (16 * k) s.size = t at hz hB hrest hxk
      generalize hzz : s.size - 16 * k = z at hz hrest hxk
      have hz0 : 0 < z := by omega
      have hz1 : z ≤ 100000 := by omega
      obtain ⟨c, hcd⟩ : ∃ c, c = min z 16 := ⟨_, rfl⟩
      rw [← hcd] at hrest hxk
      have hc0 : 0 < c := by omega
      have hc1 : c ≤ 16 := by omega
      have hc2 : c ≤ z := by omega
      have hmin : min (z : Int) 16 = (c : Int) := by omega
      have hne : t.toList.isEmpty = false := by
        rw [ByteArray.toList_eq]
        cases h : t.data.toList with
        | nil => have : t.data.toList.length = t.size := by simp
                 rw [h] at this; simp at this; omega
        | cons _ _ => rfl
      have hbs : (t.extract 0 c).size = c := by simp; omega
      have hsl1 : ∀ W, (Instr.slice 9 (.string t) none (some (.int .i64 (c : Int))) none).run Try.prog W = .ok (.string (t.extract 0 c)) W := fun W => by
        rw [run_slice_string_h (ht := Try.underlying9) (h0 := by omega) (h2 := by omega)]
        rfl
      have hsl2 : ∀ W, (Instr.slice 9 (.string t) (some (.int .i64 (c : Int))) none none).run Try.prog W = .ok (.string r) W := fun W => by
        rw [run_slice_string_l (ht := Try.underlying9) (h0 := by omega) (h1 := by omega), ← hrest, hz]
        rfl
      generalize t.extract 0 c = b at hbs hsl1 hxk
      have hrs : (⟨(Lib.repeatL [0] (16 - c)).toArray⟩ : ByteArray).size = 16 - c := by
        simp [ByteArray.size, Lib.repeatL_length]
      have hw : IntKind.i64.wrap (16 - (c : Int)) = ((16 - c : Nat) : Int) := by rw [IntWalk.i64_in _ (by omega)]; omega
      generalize hq : 16 - c = q at hrs hxk hw
      have hq1 : q ≤ 16 := by omega
      have hcl : wr.cell? ⟨Bn, 0, none⟩ = some (.string t) := hB.cell (k := 0) rfl
      have HZ := Lib.hid hzz
      clear hrest hzz hcd hlt
      gi_wp2_with (refine ⟨trivial, ?_⟩; gi_at_call 16; refine (callsIn_wide.2 (Try.strings_Repeat ⟨#[0]⟩ q wr (by omega) (by simp [ByteArray.size]; omega))).mono ?_; rintro e w1 ⟨rfl, hk1⟩; have hJ1 := hJb _ _ _ hJ hk1; have hB1 := hB.callee hk1; obtain ⟨fn, tmps, assign, body, hy, hR⟩ := hY k _ w1 hxk hJ1; (try dsimp only at hy); clear hY hJb hJ hk1)
      refine hR.mono ?_
      rintro e w3 ⟨rfl, hJ3, hB3⟩
      replace hB3 : Blk w3 Bn #[.string t] 9 := hB3 _ hB1
      have hc3 : w3.cell? ⟨Bn, 0, none⟩ = some (.string t) := hB3.cell (k := 0) rfl
      have hf3 := hB3.free 0
      gi_wp2
      go_roundw
      case rel => exact ⟨k + 1, by omega, by rw [HR.out]; exact hB3.set 0 _, hJs _ _ _ hJ3⟩
      case measure =>
        rw [leftIn_blk (hB3.set 0 (.string r)), leftIn_blk hB]
        have h1 := HR.out
        have h2 := HZ.out
        rw [← h1, hz]
        simp
        omega
    · have hex : s.extract (16 * k) s.size = ⟨#[]⟩ := by
        apply ByteArray.ext
        simp only [ByteArray.data_extract]
        rw [Array.extract_empty_of_stop_le_start (by omega)]
      rw [hex] at hB
      have hcl : wr.cell? ⟨Bn, 0, none⟩ = some (.string ⟨#[]⟩) := hB.cell (k := 0) rfl
      have hne : (ByteArray.toList ⟨#[]⟩).isEmpty = true := by rw [ByteArray.toList_eq]; rfl
      gi_wp2
      go_end0
      refine ⟨⟨_, rfl⟩, ?_⟩
      have hkk : (Sx.chunks s.data.toList).length = k := by simp [Sx.chunks]; omega
      rw [hkk]; exact hJ
end Go.Proofs.Ytieooonobjkglaa
