/- The contract of the reference's words of a key. No condition on the world. -/
import Derived.Test.YtieooonobjkglaaQRefW
import Derived.Deep.RegionHeld3
import Derived.Laws.DeepStrings4
import Derived.Test.YtieooonobjkglaaQGcm
namespace Go.Proofs.Ytieooonobjkglaa
open Go Go.Proofs Go.RowKit Go.Shelf SW
set_option maxRecDepth 20000
set_option maxHeartbeats 8000000
namespace Rw
attribute [local go_sem] U8_xor U8_fold
theorem infoS : (Try.prog.info? 9).map (fun i => (i.zero, i.size, i.bytes)) = some (some (.string ⟨#[]⟩), 1, 16) := by kernel_rfl
theorem list4 (l : List UInt8) (h : l.length = 4) : ∃ a b c d, l = [a, b, c, d] := by
  match l, h with
  | [a, b, c, d], _ => exact ⟨a, b, c, d, rfl⟩
theorem own_empty (w : World) (base size : Nat) (T : TypeId) (hb : base ≤ w.heap.size) : Own (w.alloc (.cells #[] T)) base size (.slice (some ⟨w.heap.size, 0, none⟩) 0 0) 0 [] :=
  ⟨by simp, .inr ⟨_, 0, rfl, hb, by simp, Nat.le_refl _, fun j u hj => by simp at hj, fun j hj => by omega⟩⟩
theorem keepA {w W : World} {a : Addr} {v : Value} (h : Below w.heap.size w W ∧ W.cell? a = some v) (o : Obj) : Below w.heap.size w (W.alloc o) ∧ (W.alloc o).cell? a = some v :=
  ⟨h.1.alloc h.1.size o, (((Below.refl W.heap.size W).alloc (Nat.le_refl _) o).cell (World.block_lt_of_cell? _ _ h.2)).trans h.2⟩
theorem rtext1_any (z : UInt8) (g : Nat) (w : World) (hc : w.cell? ⟨g, 0, none⟩ = some (.int .u8 (U8 z))) :
    Calls Try.prog 153 #[.slice (some ⟨g, 0, none⟩) 1 1] w fun e w' => e = .returned (.string ⟨#[z]⟩) ∧ Below w.heap.size w w' :=
  (rtext_any [z] g 1 w (fun j hj => by
    obtain rfl : j = 0 := by simp at hj; exact hj
    exact hc)).mono fun _ _ h => ⟨h.1, by rw [← h.2]; exact Below.refl _ _⟩
theorem words4 (s : ByteArray) (hs : s.size = 4 * 4) (w : World) : Calls Try.prog 152 #[.string s] w fun e w' => ∃ v, e = .returned v ∧
      Own w' w.heap.size 1 v 44 ((List.range 44).map fun j => .string ⟨(Sx.wordAt 4 s.data.toList j).toArray⟩) ∧ Below w.heap.size w w' := by
  have hmx : Try.prog.toTables.follows .mixedOrders = true := by kernel_rfl
  obtain ⟨iS, eS, zS, sS, bS⟩ := info_parts infoS
  have hlen : s.data.toList.length = 4 * 4 := by simpa using hs
  have HLEN := Lib.hid hlen
  obtain ⟨wb, HWB⟩ : ∃ wb : Nat → ByteArray, Hid (∀ j, (wb j) = ⟨(Sx.wordAt 4 s.data.toList j).toArray⟩) := ⟨fun j => ⟨(Sx.wordAt 4 s.data.toList j).toArray⟩, fun _ => rfl⟩
  have HWL : Hid (∀ j, j < 44 → (wb j).size = 4) := by
    refine show ∀ j, _ from fun j hj => ?_
    rw [HWB.out]
    exact Sx.wordAt_length 4 _ hlen j hj
  have HNX : Hid (∀ i, 4 ≤ i → i < 44 → Sx.wordAt 4 s.data.toList i = Sx.xorL (wb (i - 4)).data.toList (Sx.kw 4 i (wb (i - 1)).data.toList)) := by
    refine show ∀ i, _ from fun i h1 h2 => ?_
    rw [HWB.out, HWB.out]
    exact Sx.wordAt_next 4 _ hlen (by omega) i h1 h2
  have HFS : Hid (∀ i : Nat, i < 4 → (Instr.slice 9 (.string s) (some (.int .i64 (4 * (i : Int)))) (some (.int .i64 (4 * (i : Int) + 4))) none).run Try.prog = fun W => .ok (.string (wb i)) W) := by
    refine show ∀ i, _ from fun i hi => funext fun W => ?_
    rw [run_slice_string_if W 9 s .i64 .i64 _ _ Try.underlying9, if_pos (by omega), if_pos (by omega), HWB.out, Sx.wordAt_first 4 _ hlen i hi]
    congr 2
    apply ByteArray.ext
    apply Array.toList_inj.1
    rw [show (4 * (i : Int)).toNat = 4 * i by omega, show (4 * (i : Int) + 4).toNat = 4 * i + 4 by omega]
    simp [ByteArray.data_extract]
  have HFIN : Hid (((List.range 44).map fun j => Value.string ⟨(Sx.wordAt 4 s.data.toList j).toArray⟩) = (List.range 44).map fun j => Value.string (wb j)) := by
    refine show _ = _ from ?_
    congr 1; funext j; rw [HWB.out]
  obtain ⟨xf, HXF⟩ : ∃ xf : Nat → List Value, Hid (∀ n, xf n = (List.range n).map fun j => Value.string (wb j)) := ⟨fun n => (List.range n).map fun j => Value.string (wb j), fun _ => rfl⟩
  have HXS : Hid (∀ n, xf (n + 1) = xf n ++ [.string (wb n)]) := by
    refine show ∀ n, _ from fun n => ?_
    rw [HXF.out, HXF.out, List.range_succ, List.map_append]; rfl
  have HXG : Hid (∀ n j, j < n → (xf n)[j]? = some (.string (wb j))) := by
    refine show ∀ n j, _ from fun n j h => ?_
    rw [HXF.out]; simp [h]
  rw [HFIN.out, ← HXF.out]
  clear hlen HFIN
  have hq4 : (s.size : Int) / 4 = 4 := by omega
  have hx0 : xf 0 = [] := by rw [HXF.out]; rfl
  have hO0 : Own (w.alloc (.cells #[] 9)) w.heap.size 1 (.slice (some ⟨w.heap.size, 0, none⟩) 0 0) 0 (xf 0) := by rw [hx0]; exact own_empty w w.heap.size 1 9 (Nat.le_refl _)
  have hW0 : Below w.heap.size w (w.alloc (.cells #[] 9)) := (Below.refl _ _).alloc (Nat.le_refl _) _
  clear hx0
  go_enter Try.func152, Try.ntmps152
  go_wp2
  go_loopw [4, 5] (fun v iv wr => ∃ i : Nat, i ≤ 4 ∧ iv = .int .i64 i ∧ Own wr w.heap.size 1 v i (xf i) ∧ Below w.heap.size w wr) (fun _ iv _ => 4 - (intOf iv).toNat)
  case atStart => exact ⟨0, by omega, rfl, hO0, hW0⟩
  case round =>
    clear hW0 hO0
    obtain ⟨i, hi, rfl, hO, hW⟩ := hrel
    by_cases hlt : i < 4
    · have hlti : (i : Int) < 4 := by omega
      have hsl := HFS.out i hlt
      have HS1 := Lib.hid (HXS.out i)
      generalize wb i = k0 at hsl HS1
      have hsl2 : ∀ W, (Instr.slice 9 (.string s) (some (.int .i64 (4 * (i : Int)))) (some (.int .i64 (4 * (i : Int) + 4))) none).run Try.prog W = .ok (.string k0) W := fun W => by rw [hsl]
      have hw : IntKind.i64.wrap (4 * (i : Int) + 4) = 4 * (i : Int) + 4 := IntWalk.i64_in _ (by omega)
      clear hsl
      go_wp2_with (refine own_append rfl _ _ 88 rfl 9 iS (.string ⟨#[]⟩) 1 16 Try.underlying88 eS zS sS bS rfl (by decide) w.heap.size i _ _ rfl (hO.alloc _) (by have := hW.size; simp; omega) ⟨wr.heap.size, 0, none⟩ 1 1 [.string (k0)] rfl rfl (one_new _ _ _) (by simp [Value.oneCell']) (by unfold maxLen; omega) (by omega) ?_; intro v' w9 hO' hg' hk' hkp)
      go_roundw
      case rel =>
        refine ⟨i + 1, by omega, by go_num, ?_, ?_⟩
        · rw [HS1.out]
          exact hO'
        · exact (hW.alloc hW.size _).grown hg' (by have := hW.size; simp; omega) (fun k hk => (hO.blk hk).1)
      case measure => simp [intOf]; omega
    · obtain rfl : i = 4 := by omega
      clear hlt hi
      rw [show ((4 : Nat) : Int) = 4 from rfl]
      go_wp2
      go_loopw [4, 6] (fun v iv wr => ∃ i : Nat, 4 ≤ i ∧ i ≤ 44 ∧ iv = .int .i64 i ∧ Own wr w.heap.size 1 v i (xf i) ∧ Below w.heap.size w wr) (fun _ iv _ => 44 - (intOf iv).toNat)
      case atStart => exact ⟨4, by omega, by omega, rfl, hO, hW⟩
      case round =>
        clear hW hO
        obtain ⟨i, hi1, hi2, rfl, hO, hW⟩ := hrel
        by_cases hlt : i < 44
        · have hlti : (i : Int) < 44 := by omega
          obtain ⟨g, cap, rfl, hgb, hgl, hcap, hcells⟩ := hO.form (by omega)
          obtain ⟨p, hp⟩ : ∃ p : Nat, p + 1 = i := ⟨i - 1, by omega⟩
          obtain ⟨q, hq⟩ : ∃ q : Nat, q + 4 = i := ⟨i - 4, by omega⟩
          have cp := hcells p _ (HXG.out i p (by omega))
          have HCQ := Lib.hid (HXG.out i q (by omega))
          have e1 : (i : Int) - 1 = (p : Int) := by omega
          have e2 : (i : Int) - 4 = (q : Int) := by omega
          have l1 : (p : Int) < (i : Int) := by omega
          have l2 : (q : Int) < (i : Int) := by omega
          have HS1 := Lib.hid (HXS.out i)
          clear hcells hlt
          by_cases hm : i % 4 = 0
          · have hm' : ((i : Int) % 4 == 0) = true := by simp; omega
            obtain ⟨m, hmq⟩ : ∃ m : Nat, m = i / 4 - 1 := ⟨_, rfl⟩
            have q0 : (i : Int) / 4 ≥ 1 ∧ (i : Int) / 4 ≤ 15 := by omega
            have q1 : IntKind.i64.wrap ((i : Int) / 4) = (i : Int) / 4 := IntWalk.i64_in _ (by omega)
            have q2 : IntKind.i64.wrap ((i : Int) / 4 - 1) = (m : Int) := by rw [IntWalk.i64_in _ (by omega)]; omega
            have hm12 : m < 12 := by omega
            obtain ⟨a, b, c, d, habcd⟩ : ∃ a b c d, (wb p).data.toList = [a, b, c, d] := list4 _ (by rw [Array.length_toList]; exact HWL.out p (by omega))
            obtain ⟨tp, htp⟩ : ∃ tp, tp = wb p := ⟨_, rfl⟩
            have htl : tp = ⟨#[a, b, c, d]⟩ := by rw [htp]; apply ByteArray.ext; apply Array.toList_inj.1; exact habcd
            have hslA : ∀ W, (Instr.slice 9 (.string (wb p)) (some (.int .i64 1)) none none).run Try.prog W = .ok (.string ⟨#[b, c, d]⟩) W := fun W => by
              rw [← htp, htl, run_slice_string_l (ht := Try.underlying9) (h0 := by omega) (h1 := by show (1 : Int) ≤ ((4 : Nat) : Int); omega)]
              rfl
            have hslB : ∀ W, (Instr.slice 9 (.string (wb p)) none (some (.int .i64 1)) none).run Try.prog W = .ok (.string ⟨#[a]⟩) W := fun W => by
              rw [← htp, htl, run_slice_string_h (ht := Try.underlying9) (h0 := by omega) (h2 := by show (1 : Int) ≤ ((4 : Nat) : Int); omega)]
              rfl
            have hs1 : (⟨#[b, c, d]⟩ : ByteArray).size = 3 := rfl
            have hs2 : (⟨#[a]⟩ : ByteArray).size = 1 := rfl
            obtain ⟨r, hr⟩ : ∃ r : ByteArray, r = ⟨#[Sx.box b, Sx.box c, Sx.box d, Sx.box a]⟩ := ⟨_, rfl⟩
            have C1 : Hid (∀ w, Calls Try.prog 119 #[.string (⟨#[b, c, d]⟩ ++ ⟨#[a]⟩)] w fun e w' => e = .returned (.string r) ∧ Below w.heap.size w w') := by
              refine show ∀ w, _ from fun w => ?_
              rw [hr]
              exact rboxed_any (⟨#[b, c, d]⟩ ++ ⟨#[a]⟩) (by rw [ByteArray.size_append, hs1, hs2]; omega) w
            have hix : ∀ W, (Instr.index 9 (.string r) (.int .i64 0)).run Try.prog W = .ok (.int .u8 (U8 (Sx.box b))) W := fun W => by
              rw [hr]
              exact run_index_string (P := Try.prog) W 9 ⟨#[Sx.box b, Sx.box c, Sx.box d, Sx.box a]⟩ .i64 0 Try.underlying9
            have hslR : ∀ W, (Instr.slice 9 (.string r) (some (.int .i64 1)) none none).run Try.prog W = .ok (.string ⟨#[Sx.box c, Sx.box d, Sx.box a]⟩) W := fun W => by
              rw [hr, run_slice_string_l (ht := Try.underlying9) (h0 := by omega) (h1 := by show (1 : Int) ≤ ((4 : Nat) : Int); omega)]
              rfl
            have hs3 : (⟨#[Sx.box c, Sx.box d, Sx.box a]⟩ : ByteArray).size = 3 := rfl
            obtain ⟨z, hz⟩ : ∃ z : UInt8, z = Sx.box b ^^^ Sx.pow 2 m := ⟨_, rfl⟩
            have CT : Hid (∀ g w, w.cell? ⟨g, 0, none⟩ = some (.int .u8 (U8 z)) → Calls Try.prog 153 #[.slice (some ⟨g, 0, none⟩) 1 1] w fun e w' => e = .returned (.string ⟨#[z]⟩) ∧ Below w.heap.size w w') := by exact fun g w h => rtext1_any z g w h
            have hs4 : (⟨#[z]⟩ : ByteArray).size = 1 := rfl
            have hU : Sx.box b ^^^ Sx.pow 2 m = z := hz.symm
            have hyl : ((⟨#[z]⟩ ++ ⟨#[Sx.box c, Sx.box d, Sx.box a]⟩) : ByteArray).data.toList = Sx.kw 4 i (wb p).data.toList := by rw [habcd, hz, hmq]; simp only [ByteArray.data_append, Array.toList_append]; unfold Sx.kw Sx.kword; rw [if_pos hm]; rfl
            have CX : Hid (∀ w, Calls Try.prog 117 #[.string (wb q), .string (⟨#[z]⟩ ++ ⟨#[Sx.box c, Sx.box d, Sx.box a]⟩)] w fun e w' => e = .returned (.string (wb i)) ∧ Below w.heap.size w w') := by
              refine show ∀ w, _ from fun w => ?_
              have := rxor6_any (wb q) (⟨#[z]⟩ ++ ⟨#[Sx.box c, Sx.box d, Sx.box a]⟩) (by rw [HWL.out q (by omega), ByteArray.size_append, hs4, hs3]; exact Nat.le_refl _) (by rw [HWL.out q (by omega)]; omega) w
              rwa [hyl, show (⟨(Sx.xorL (wb q).data.toList (Sx.kw 4 i (wb p).data.toList)).toArray⟩ : ByteArray) = wb i by rw [HWB.out i, HNX.out i (by omega) (by omega), show i - 4 = q by omega, show i - 1 = p by omega]] at this
            clear hyl
            generalize (⟨#[b, c, d]⟩ : ByteArray) = s1 at hslA hs1 C1
            generalize (⟨#[a]⟩ : ByteArray) = s2 at hslB hs2 C1
            generalize (⟨#[Sx.box c, Sx.box d, Sx.box a]⟩ : ByteArray) = s3 at hslR hs3 CX
            generalize (⟨#[z]⟩ : ByteArray) = s4 at CT hs4 CX
            generalize Sx.box b = xb at hix hU
            have CP : Hid (∀ w, Calls Try.prog 174 #[.int .u8 2, .int .i64 m] w fun e w' => e = .returned (.int .u8 (U8 (Sx.pow 2 m))) ∧ Below w.heap.size w w') := by exact rpow_any m hm12
            generalize Sx.pow 2 m = pw at CP hU
            clear hm hmq hm12 habcd htp htl hr hz q0
            go_wp2_with fail
            have hA : Below wr.heap.size wr wr.drew := (Below.refl _ _).drew
            go_region_held3 (fun W => Below wr.heap.size wr W)
              (first | assumption | exact (Below.refl _ _).drew | exact Below.callee (by assumption) hk2)
              ((go_at_call 119; refine (C1.out _).mono ?_; rintro e w2 ⟨rfl, hk2⟩; replace hA := Below.callee hA hk2))
            have hA2 : Below wr.heap.size wr w2 := hA
            clear hk2 hA
            go_wp2_with fail
            have hA : Below wr.heap.size wr w2.drew := hA2.drew
            have hS0 : Below wr.heap.size wr w2.drew ∧ w2.drew.cell? ⟨g, q, none⟩ = some (.string (wb q)) := ⟨hA2.drew, (hO.below hA).cells q _ HCQ.out⟩
            go_region_held3 (fun W => Below wr.heap.size wr W ∧ W.cell? ⟨g, q, none⟩ = some (.string (wb q)))
              (first | assumption | exact keepC (by assumption) hk2 | exact keepA (by assumption) _ | exact keepC (by assumption) hk3)
              ((first | (go_at_call 174; refine (CP.out _).mono ?_; rintro e w3 ⟨rfl, hk2⟩; replace hA := Below.callee hA hk2) | (go_at_call 153; refine (CT.out _ _ (one_new _ _ _ 0 _ rfl)).mono ?_; rintro e w4 ⟨rfl, hk3⟩; replace hA := Below.callee (hA.alloc hA.size _) hk3)))
            all_goals
              clear hk2 hk3
              have hO4 := hO.below hA
              have hB4 := Below.callee hW hA
              have c4 : w4.cell? ⟨g, q, none⟩ = some (.string (wb q)) := hO4.cells q _ HCQ.out
              go_wp2_with (first | (go_at_call 117; refine (CX.out _).mono ?_; rintro e w8 ⟨rfl, hk8⟩; have hO8 := hO4.below hk8; have hB8 := Below.callee hB4 hk8) | (refine own_append rfl _ _ 88 rfl 9 iS (.string ⟨#[]⟩) 1 16 Try.underlying88 eS zS sS bS rfl (by decide) w.heap.size i _ _ rfl (hO8.alloc _) (by have := hB8.size; simp; omega) ⟨w8.heap.size, 0, none⟩ 1 1 [.string (wb i)] rfl rfl (one_new _ _ _) (by simp [Value.oneCell']) (by unfold maxLen; omega) (by omega) ?_; intro v' w9 hO' hg' hk' hkp))
              go_roundw
              case rel =>
                refine ⟨i + 1, by omega, by omega, by go_num, ?_, ?_⟩
                · rw [HS1.out]
                  exact hO'
                · exact (hB8.alloc hB8.size _).grown hg' (by have := hB8.size; simp; omega) (fun k hk => (hO8.blk hk).1)
              case measure => simp [intOf]; omega
          · have hm' : ((i : Int) % 4 == 0) = false := by simp; omega
            have h8 : ((4 : Int) == 8) = false := rfl
            have hyl : ((wb p) : ByteArray).data.toList = Sx.kw 4 i (wb p).data.toList := by obtain ⟨a, b, c, d, habcd⟩ := list4 (wb p).data.toList (by rw [Array.length_toList]; exact HWL.out p (by omega)); rw [habcd]; unfold Sx.kw Sx.kword; rw [if_neg hm, if_neg (by omega)]; rfl
            have CX : Hid (∀ w, Calls Try.prog 117 #[.string (wb q), .string (wb p)] w fun e w' => e = .returned (.string (wb i)) ∧ Below w.heap.size w w') := by
              refine show ∀ w, _ from fun w => ?_
              have := rxor6_any (wb q) (wb p) (by rw [HWL.out q (by omega), HWL.out p (by omega)]; exact Nat.le_refl _) (by rw [HWL.out q (by omega)]; omega) w
              rwa [hyl, show (⟨(Sx.xorL (wb q).data.toList (Sx.kw 4 i (wb p).data.toList)).toArray⟩ : ByteArray) = wb i by rw [HWB.out i, HNX.out i (by omega) (by omega), show i - 4 = q by omega, show i - 1 = p by omega]] at this
            clear hyl
            clear hm
            have c4 : wr.cell? ⟨g, q, none⟩ = some (.string (wb q)) := hO.cells q _ HCQ.out
            go_wp2_with (first | (go_at_call 117; refine (CX.out _).mono ?_; rintro e w8 ⟨rfl, hk8⟩; have hO8 := hO.below hk8; have hB8 := Below.callee hW hk8) | (refine own_append rfl _ _ 88 rfl 9 iS (.string ⟨#[]⟩) 1 16 Try.underlying88 eS zS sS bS rfl (by decide) w.heap.size i _ _ rfl (hO8.alloc _) (by have := hB8.size; simp; omega) ⟨w8.heap.size, 0, none⟩ 1 1 [.string (wb i)] rfl rfl (one_new _ _ _) (by simp [Value.oneCell']) (by unfold maxLen; omega) (by omega) ?_; intro v' w9 hO' hg' hk' hkp))
            go_roundw
            case rel =>
              refine ⟨i + 1, by omega, by omega, by go_num, ?_, ?_⟩
              · rw [HS1.out]
                exact hO'
              · exact (hB8.alloc hB8.size _).grown hg' (by have := hB8.size; simp; omega) (fun k hk => (hO8.blk hk).1)
            case measure => simp [intOf]; omega
        · obtain rfl : i = 44 := by omega
          rw [show ((44 : Nat) : Int) = 44 from rfl]
          go_wp2
          go_ret
          exact ⟨_, rfl, hO, hW⟩
end Rw
end Go.Proofs.Ytieooonobjkglaa
namespace Go.Proofs.Ytieooonobjkglaa
open Go Go.Proofs Go.RowKit Go.Shelf SW
set_option maxRecDepth 20000
set_option maxHeartbeats 8000000
namespace Rw
attribute [local go_sem] U8_xor U8_fold
theorem words8 (s : ByteArray) (hs : s.size = 4 * 8) (w : World) : Calls Try.prog 152 #[.string s] w fun e w' => ∃ v, e = .returned v ∧
      Own w' w.heap.size 1 v 60 ((List.range 60).map fun j => .string ⟨(Sx.wordAt 8 s.data.toList j).toArray⟩) ∧ Below w.heap.size w w' := by
  have hmx : Try.prog.toTables.follows .mixedOrders = true := by kernel_rfl
  obtain ⟨iS, eS, zS, sS, bS⟩ := info_parts infoS
  have hlen : s.data.toList.length = 4 * 8 := by simpa using hs
  have HLEN := Lib.hid hlen
  obtain ⟨wb, HWB⟩ : ∃ wb : Nat → ByteArray, Hid (∀ j, (wb j) = ⟨(Sx.wordAt 8 s.data.toList j).toArray⟩) := ⟨fun j => ⟨(Sx.wordAt 8 s.data.toList j).toArray⟩, fun _ => rfl⟩
  have HWL : Hid (∀ j, j < 60 → (wb j).size = 4) := by
    refine show ∀ j, _ from fun j hj => ?_
    rw [HWB.out]
    exact Sx.wordAt_length 8 _ hlen j hj
  have HNX : Hid (∀ i, 8 ≤ i → i < 60 → Sx.wordAt 8 s.data.toList i = Sx.xorL (wb (i - 8)).data.toList (Sx.kw 8 i (wb (i - 1)).data.toList)) := by
    refine show ∀ i, _ from fun i h1 h2 => ?_
    rw [HWB.out, HWB.out]
    exact Sx.wordAt_next 8 _ hlen (by omega) i h1 h2
  have HFS : Hid (∀ i : Nat, i < 8 → (Instr.slice 9 (.string s) (some (.int .i64 (4 * (i : Int)))) (some (.int .i64 (4 * (i : Int) + 4))) none).run Try.prog = fun W => .ok (.string (wb i)) W) := by
    refine show ∀ i, _ from fun i hi => funext fun W => ?_
    rw [run_slice_string_if W 9 s .i64 .i64 _ _ Try.underlying9, if_pos (by omega), if_pos (by omega), HWB.out, Sx.wordAt_first 8 _ hlen i hi]
    congr 2
    apply ByteArray.ext
    apply Array.toList_inj.1
    rw [show (4 * (i : Int)).toNat = 4 * i by omega, show (4 * (i : Int) + 4).toNat = 4 * i + 4 by omega]
    simp [ByteArray.data_extract]
  have HFIN : Hid (((List.range 60).map fun j => Value.string ⟨(Sx.wordAt 8 s.data.toList j).toArray⟩) = (List.range 60).map fun j => Value.string (wb j)) := by
    refine show _ = _ from ?_
    congr 1; funext j; rw [HWB.out]
  obtain ⟨xf, HXF⟩ : ∃ xf : Nat → List Value, Hid (∀ n, xf n = (List.range n).map fun j => Value.string (wb j)) := ⟨fun n => (List.range n).map fun j => Value.string (wb j), fun _ => rfl⟩
  have HXS : Hid (∀ n, xf (n + 1) = xf n ++ [.string (wb n)]) := by
    refine show ∀ n, _ from fun n => ?_
    rw [HXF.out, HXF.out, List.range_succ, List.map_append]; rfl
  have HXG : Hid (∀ n j, j < n → (xf n)[j]? = some (.string (wb j))) := by
    refine show ∀ n j, _ from fun n j h => ?_
    rw [HXF.out]; simp [h]
  rw [HFIN.out, ← HXF.out]
  clear hlen HFIN
  have hq4 : (s.size : Int) / 4 = 8 := by omega
  have hx0 : xf 0 = [] := by rw [HXF.out]; rfl
  have hO0 : Own (w.alloc (.cells #[] 9)) w.heap.size 1 (.slice (some ⟨w.heap.size, 0, none⟩) 0 0) 0 (xf 0) := by rw [hx0]; exact own_empty w w.heap.size 1 9 (Nat.le_refl _)
  have hW0 : Below w.heap.size w (w.alloc (.cells #[] 9)) := (Below.refl _ _).alloc (Nat.le_refl _) _
  clear hx0
  go_enter Try.func152, Try.ntmps152
  go_wp2
  go_loopw [4, 5] (fun v iv wr => ∃ i : Nat, i ≤ 8 ∧ iv = .int .i64 i ∧ Own wr w.heap.size 1 v i (xf i) ∧ Below w.heap.size w wr) (fun _ iv _ => 8 - (intOf iv).toNat)
  case atStart => exact ⟨0, by omega, rfl, hO0, hW0⟩
  case round =>
    clear hW0 hO0
    obtain ⟨i, hi, rfl, hO, hW⟩ := hrel
    by_cases hlt : i < 8
    · have hlti : (i : Int) < 8 := by omega
      have hsl := HFS.out i hlt
      have HS1 := Lib.hid (HXS.out i)
      generalize wb i = k0 at hsl HS1
      have hsl2 : ∀ W, (Instr.slice 9 (.string s) (some (.int .i64 (4 * (i : Int)))) (some (.int .i64 (4 * (i : Int) + 4))) none).run Try.prog W = .ok (.string k0) W := fun W => by rw [hsl]
      have hw : IntKind.i64.wrap (4 * (i : Int) + 4) = 4 * (i : Int) + 4 := IntWalk.i64_in _ (by omega)
      clear hsl
      go_wp2_with (refine own_append rfl _ _ 88 rfl 9 iS (.string ⟨#[]⟩) 1 16 Try.underlying88 eS zS sS bS rfl (by decide) w.heap.size i _ _ rfl (hO.alloc _) (by have := hW.size; simp; omega) ⟨wr.heap.size, 0, none⟩ 1 1 [.string (k0)] rfl rfl (one_new _ _ _) (by simp [Value.oneCell']) (by unfold maxLen; omega) (by omega) ?_; intro v' w9 hO' hg' hk' hkp)
      go_roundw
      case rel =>
        refine ⟨i + 1, by omega, by go_num, ?_, ?_⟩
        · rw [HS1.out]
          exact hO'
        · exact (hW.alloc hW.size _).grown hg' (by have := hW.size; simp; omega) (fun k hk => (hO.blk hk).1)
      case measure => simp [intOf]; omega
    · obtain rfl : i = 8 := by omega
      clear hlt hi
      rw [show ((8 : Nat) : Int) = 8 from rfl]
      go_wp2
      go_loopw [4, 6] (fun v iv wr => ∃ i : Nat, 8 ≤ i ∧ i ≤ 60 ∧ iv = .int .i64 i ∧ Own wr w.heap.size 1 v i (xf i) ∧ Below w.heap.size w wr) (fun _ iv _ => 60 - (intOf iv).toNat)
      case atStart => exact ⟨8, by omega, by omega, rfl, hO, hW⟩
      case round =>
        clear hW hO
        obtain ⟨i, hi1, hi2, rfl, hO, hW⟩ := hrel
        by_cases hlt : i < 60
        · have hlti : (i : Int) < 60 := by omega
          obtain ⟨g, cap, rfl, hgb, hgl, hcap, hcells⟩ := hO.form (by omega)
          obtain ⟨p, hp⟩ : ∃ p : Nat, p + 1 = i := ⟨i - 1, by omega⟩
          obtain ⟨q, hq⟩ : ∃ q : Nat, q + 8 = i := ⟨i - 8, by omega⟩
          have cp := hcells p _ (HXG.out i p (by omega))
          have HCQ := Lib.hid (HXG.out i q (by omega))
          have e1 : (i : Int) - 1 = (p : Int) := by omega
          have e2 : (i : Int) - 8 = (q : Int) := by omega
          have l1 : (p : Int) < (i : Int) := by omega
          have l2 : (q : Int) < (i : Int) := by omega
          have HS1 := Lib.hid (HXS.out i)
          clear hcells hlt
          by_cases hm : i % 8 = 0
          · have hm' : ((i : Int) % 8 == 0) = true := by simp; omega
            obtain ⟨m, hmq⟩ : ∃ m : Nat, m = i / 8 - 1 := ⟨_, rfl⟩
            have q0 : (i : Int) / 8 ≥ 1 ∧ (i : Int) / 8 ≤ 15 := by omega
            have q1 : IntKind.i64.wrap ((i : Int) / 8) = (i : Int) / 8 := IntWalk.i64_in _ (by omega)
            have q2 : IntKind.i64.wrap ((i : Int) / 8 - 1) = (m : Int) := by rw [IntWalk.i64_in _ (by omega)]; omega
            have hm12 : m < 12 := by omega
            obtain ⟨a, b, c, d, habcd⟩ : ∃ a b c d, (wb p).data.toList = [a, b, c, d] := list4 _ (by rw [Array.length_toList]; exact HWL.out p (by omega))
            obtain ⟨tp, htp⟩ : ∃ tp, tp = wb p := ⟨_, rfl⟩
            have htl : tp = ⟨#[a, b, c, d]⟩ := by rw [htp]; apply ByteArray.ext; apply Array.toList_inj.1; exact habcd
            have hslA : ∀ W, (Instr.slice 9 (.string (wb p)) (some (.int .i64 1)) none none).run Try.prog W = .ok (.string ⟨#[b, c, d]⟩) W := fun W => by
              rw [← htp, htl, run_slice_string_l (ht := Try.underlying9) (h0 := by omega) (h1 := by show (1 : Int) ≤ ((4 : Nat) : Int); omega)]
              rfl
            have hslB : ∀ W, (Instr.slice 9 (.string (wb p)) none (some (.int .i64 1)) none).run Try.prog W = .ok (.string ⟨#[a]⟩) W := fun W => by
              rw [← htp, htl, run_slice_string_h (ht := Try.underlying9) (h0 := by omega) (h2 := by show (1 : Int) ≤ ((4 : Nat) : Int); omega)]
              rfl
            have hs1 : (⟨#[b, c, d]⟩ : ByteArray).size = 3 := rfl
            have hs2 : (⟨#[a]⟩ : ByteArray).size = 1 := rfl
            obtain ⟨r, hr⟩ : ∃ r : ByteArray, r = ⟨#[Sx.box b, Sx.box c, Sx.box d, Sx.box a]⟩ := ⟨_, rfl⟩
            have C1 : Hid (∀ w, Calls Try.prog 119 #[.string (⟨#[b, c, d]⟩ ++ ⟨#[a]⟩)] w fun e w' => e = .returned (.string r) ∧ Below w.heap.size w w') := by
              refine show ∀ w, _ from fun w => ?_
              rw [hr]
              exact rboxed_any (⟨#[b, c, d]⟩ ++ ⟨#[a]⟩) (by rw [ByteArray.size_append, hs1, hs2]; omega) w
            have hix : ∀ W, (Instr.index 9 (.string r) (.int .i64 0)).run Try.prog W = .ok (.int .u8 (U8 (Sx.box b))) W := fun W => by
              rw [hr]
              exact run_index_string (P := Try.prog) W 9 ⟨#[Sx.box b, Sx.box c, Sx.box d, Sx.box a]⟩ .i64 0 Try.underlying9
            have hslR : ∀ W, (Instr.slice 9 (.string r) (some (.int .i64 1)) none none).run Try.prog W = .ok (.string ⟨#[Sx.box c, Sx.box d, Sx.box a]⟩) W := fun W => by
              rw [hr, run_slice_string_l (ht := Try.underlying9) (h0 := by omega) (h1 := by show (1 : Int) ≤ ((4 : Nat) : Int); omega)]
              rfl
            have hs3 : (⟨#[Sx.box c, Sx.box d, Sx.box a]⟩ : ByteArray).size = 3 := rfl
            obtain ⟨z, hz⟩ : ∃ z : UInt8, z = Sx.box b ^^^ Sx.pow 2 m := ⟨_, rfl⟩
            have CT : Hid (∀ g w, w.cell? ⟨g, 0, none⟩ = some (.int .u8 (U8 z)) → Calls Try.prog 153 #[.slice (some ⟨g, 0, none⟩) 1 1] w fun e w' => e = .returned (.string ⟨#[z]⟩) ∧ Below w.heap.size w w') := by exact fun g w h => rtext1_any z g w h
            have hs4 : (⟨#[z]⟩ : ByteArray).size = 1 := rfl
            have hU : Sx.box b ^^^ Sx.pow 2 m = z := hz.symm
            have hyl : ((⟨#[z]⟩ ++ ⟨#[Sx.box c, Sx.box d, Sx.box a]⟩) : ByteArray).data.toList = Sx.kw 8 i (wb p).data.toList := by rw [habcd, hz, hmq]; simp only [ByteArray.data_append, Array.toList_append]; unfold Sx.kw Sx.kword; rw [if_pos hm]; rfl
            have CX : Hid (∀ w, Calls Try.prog 117 #[.string (wb q), .string (⟨#[z]⟩ ++ ⟨#[Sx.box c, Sx.box d, Sx.box a]⟩)] w fun e w' => e = .returned (.string (wb i)) ∧ Below w.heap.size w w') := by
              refine show ∀ w, _ from fun w => ?_
              have := rxor6_any (wb q) (⟨#[z]⟩ ++ ⟨#[Sx.box c, Sx.box d, Sx.box a]⟩) (by rw [HWL.out q (by omega), ByteArray.size_append, hs4, hs3]; exact Nat.le_refl _) (by rw [HWL.out q (by omega)]; omega) w
              rwa [hyl, show (⟨(Sx.xorL (wb q).data.toList (Sx.kw 8 i (wb p).data.toList)).toArray⟩ : ByteArray) = wb i by rw [HWB.out i, HNX.out i (by omega) (by omega), show i - 8 = q by omega, show i - 1 = p by omega]] at this
            clear hyl
            generalize (⟨#[b, c, d]⟩ : ByteArray) = s1 at hslA hs1 C1
            generalize (⟨#[a]⟩ : ByteArray) = s2 at hslB hs2 C1
            generalize (⟨#[Sx.box c, Sx.box d, Sx.box a]⟩ : ByteArray) = s3 at hslR hs3 CX
            generalize (⟨#[z]⟩ : ByteArray) = s4 at CT hs4 CX
            generalize Sx.box b = xb at hix hU
            have CP : Hid (∀ w, Calls Try.prog 174 #[.int .u8 2, .int .i64 m] w fun e w' => e = .returned (.int .u8 (U8 (Sx.pow 2 m))) ∧ Below w.heap.size w w') := by exact rpow_any m hm12
            generalize Sx.pow 2 m = pw at CP hU
            clear hm hmq hm12 habcd htp htl hr hz q0
            go_wp2_with fail
            have hA : Below wr.heap.size wr wr.drew := (Below.refl _ _).drew
            go_region_held3 (fun W => Below wr.heap.size wr W)
              (first | assumption | exact (Below.refl _ _).drew | exact Below.callee (by assumption) hk2)
              ((go_at_call 119; refine (C1.out _).mono ?_; rintro e w2 ⟨rfl, hk2⟩; replace hA := Below.callee hA hk2))
            have hA2 : Below wr.heap.size wr w2 := hA
            clear hk2 hA
            go_wp2_with fail
            have hA : Below wr.heap.size wr w2.drew := hA2.drew
            have hS0 : Below wr.heap.size wr w2.drew ∧ w2.drew.cell? ⟨g, q, none⟩ = some (.string (wb q)) := ⟨hA2.drew, (hO.below hA).cells q _ HCQ.out⟩
            go_region_held3 (fun W => Below wr.heap.size wr W ∧ W.cell? ⟨g, q, none⟩ = some (.string (wb q)))
              (first | assumption | exact keepC (by assumption) hk2 | exact keepA (by assumption) _ | exact keepC (by assumption) hk3)
              ((first | (go_at_call 174; refine (CP.out _).mono ?_; rintro e w3 ⟨rfl, hk2⟩; replace hA := Below.callee hA hk2) | (go_at_call 153; refine (CT.out _ _ (one_new _ _ _ 0 _ rfl)).mono ?_; rintro e w4 ⟨rfl, hk3⟩; replace hA := Below.callee (hA.alloc hA.size _) hk3)))
            all_goals
              clear hk2 hk3
              have hO4 := hO.below hA
              have hB4 := Below.callee hW hA
              have c4 : w4.cell? ⟨g, q, none⟩ = some (.string (wb q)) := hO4.cells q _ HCQ.out
              go_wp2_with (first | (go_at_call 117; refine (CX.out _).mono ?_; rintro e w8 ⟨rfl, hk8⟩; have hO8 := hO4.below hk8; have hB8 := Below.callee hB4 hk8) | (refine own_append rfl _ _ 88 rfl 9 iS (.string ⟨#[]⟩) 1 16 Try.underlying88 eS zS sS bS rfl (by decide) w.heap.size i _ _ rfl (hO8.alloc _) (by have := hB8.size; simp; omega) ⟨w8.heap.size, 0, none⟩ 1 1 [.string (wb i)] rfl rfl (one_new _ _ _) (by simp [Value.oneCell']) (by unfold maxLen; omega) (by omega) ?_; intro v' w9 hO' hg' hk' hkp))
              go_roundw
              case rel =>
                refine ⟨i + 1, by omega, by omega, by go_num, ?_, ?_⟩
                · rw [HS1.out]
                  exact hO'
                · exact (hB8.alloc hB8.size _).grown hg' (by have := hB8.size; simp; omega) (fun k hk => (hO8.blk hk).1)
              case measure => simp [intOf]; omega
          · have hm' : ((i : Int) % 8 == 0) = false := by simp; omega
            by_cases hm4 : i % 8 = 4
            · have hm4' : ((i : Int) % 8 == 4) = true := by simp; omega
              obtain ⟨y, hy⟩ : ∃ y : ByteArray, y = ⟨((wb p).data.toList.map Sx.box).toArray⟩ := ⟨_, rfl⟩
              have hys : y.size = 4 := by rw [hy]; show (List.toArray _).size = 4; rw [List.size_toArray, List.length_map, Array.length_toList]; exact HWL.out p (by omega)
              have C1 : Hid (∀ w, Calls Try.prog 119 #[.string (wb p)] w fun e w' => e = .returned (.string y) ∧ Below w.heap.size w w') := by
                refine show ∀ w, _ from fun w => ?_
                rw [hy]
                exact rboxed_any (wb p) (by rw [HWL.out p (by omega)]; omega) w
              have hyl : ((y) : ByteArray).data.toList = Sx.kw 8 i (wb p).data.toList := by rw [hy]; obtain ⟨a, b, c, d, habcd⟩ := list4 (wb p).data.toList (by rw [Array.length_toList]; exact HWL.out p (by omega)); rw [habcd]; unfold Sx.kw Sx.kword; rw [if_neg hm, if_pos ⟨rfl, hm4⟩]; rfl
              have CX : Hid (∀ w, Calls Try.prog 117 #[.string (wb q), .string (y)] w fun e w' => e = .returned (.string (wb i)) ∧ Below w.heap.size w w') := by
                refine show ∀ w, _ from fun w => ?_
                have := rxor6_any (wb q) (y) (by rw [HWL.out q (by omega), hys]; exact Nat.le_refl _) (by rw [HWL.out q (by omega)]; omega) w
                rwa [hyl, show (⟨(Sx.xorL (wb q).data.toList (Sx.kw 8 i (wb p).data.toList)).toArray⟩ : ByteArray) = wb i by rw [HWB.out i, HNX.out i (by omega) (by omega), show i - 8 = q by omega, show i - 1 = p by omega]] at this
              clear hyl
              clear hm hm4 hy hys
              go_wp2_with (go_at_call 119; refine (C1.out _).mono ?_; rintro e w4 ⟨rfl, hk4⟩; have hO4 := hO.below hk4; have hB4 := Below.callee hW hk4; have c4 : w4.cell? ⟨g, q, none⟩ = some (.string (wb q)) := hO4.cells q _ HCQ.out)
              go_wp2_with (first | (go_at_call 117; refine (CX.out _).mono ?_; rintro e w8 ⟨rfl, hk8⟩; have hO8 := hO4.below hk8; have hB8 := Below.callee hB4 hk8) | (refine own_append rfl _ _ 88 rfl 9 iS (.string ⟨#[]⟩) 1 16 Try.underlying88 eS zS sS bS rfl (by decide) w.heap.size i _ _ rfl (hO8.alloc _) (by have := hB8.size; simp; omega) ⟨w8.heap.size, 0, none⟩ 1 1 [.string (wb i)] rfl rfl (one_new _ _ _) (by simp [Value.oneCell']) (by unfold maxLen; omega) (by omega) ?_; intro v' w9 hO' hg' hk' hkp))
              go_roundw
              case rel =>
                refine ⟨i + 1, by omega, by omega, by go_num, ?_, ?_⟩
                · rw [HS1.out]
                  exact hO'
                · exact (hB8.alloc hB8.size _).grown hg' (by have := hB8.size; simp; omega) (fun k hk => (hO8.blk hk).1)
              case measure => simp [intOf]; omega
            · have hm4' : ((i : Int) % 8 == 4) = false := by simp; omega
              have hyl : ((wb p) : ByteArray).data.toList = Sx.kw 8 i (wb p).data.toList := by obtain ⟨a, b, c, d, habcd⟩ := list4 (wb p).data.toList (by rw [Array.length_toList]; exact HWL.out p (by omega)); rw [habcd]; unfold Sx.kw Sx.kword; rw [if_neg hm, if_neg (by omega)]; rfl
              have CX : Hid (∀ w, Calls Try.prog 117 #[.string (wb q), .string (wb p)] w fun e w' => e = .returned (.string (wb i)) ∧ Below w.heap.size w w') := by
                refine show ∀ w, _ from fun w => ?_
                have := rxor6_any (wb q) (wb p) (by rw [HWL.out q (by omega), HWL.out p (by omega)]; exact Nat.le_refl _) (by rw [HWL.out q (by omega)]; omega) w
                rwa [hyl, show (⟨(Sx.xorL (wb q).data.toList (Sx.kw 8 i (wb p).data.toList)).toArray⟩ : ByteArray) = wb i by rw [HWB.out i, HNX.out i (by omega) (by omega), show i - 8 = q by omega, show i - 1 = p by omega]] at this
              clear hyl
              clear hm hm4
              have c4 : wr.cell? ⟨g, q, none⟩ = some (.string (wb q)) := hO.cells q _ HCQ.out
              go_wp2_with (first | (go_at_call 117; refine (CX.out _).mono ?_; rintro e w8 ⟨rfl, hk8⟩; have hO8 := hO.below hk8; have hB8 := Below.callee hW hk8) | (refine own_append rfl _ _ 88 rfl 9 iS (.string ⟨#[]⟩) 1 16 Try.underlying88 eS zS sS bS rfl (by decide) w.heap.size i _ _ rfl (hO8.alloc _) (by have := hB8.size; simp; omega) ⟨w8.heap.size, 0, none⟩ 1 1 [.string (wb i)] rfl rfl (one_new _ _ _) (by simp [Value.oneCell']) (by unfold maxLen; omega) (by omega) ?_; intro v' w9 hO' hg' hk' hkp))
              go_roundw
              case rel =>
                refine ⟨i + 1, by omega, by omega, by go_num, ?_, ?_⟩
                · rw [HS1.out]
                  exact hO'
                · exact (hB8.alloc hB8.size _).grown hg' (by have := hB8.size; simp; omega) (fun k hk => (hO8.blk hk).1)
              case measure => simp [intOf]; omega
        · obtain rfl : i = 60 := by omega
          rw [show ((60 : Nat) : Int) = 60 from rfl]
          go_wp2
          go_ret
          exact ⟨_, rfl, hO, hW⟩
end Rw
end Go.Proofs.Ytieooonobjkglaa
namespace Go.Proofs.Ytieooonobjkglaa
open Go Go.Proofs Go.RowKit Go.Shelf SW
set_option maxRecDepth 20000
set_option maxHeartbeats 8000000
theorem Sx.keyAt_words (kk : Nat) (key : List UInt8) (j : Nat) : Sx.keyAt kk key j = Sx.wordAt kk key (4 * j) ++ Sx.wordAt kk key (4 * j + 1) ++ Sx.wordAt kk key (4 * j + 2) ++ Sx.wordAt kk key (4 * j + 3) := by
  unfold Sx.keyAt Sx.wordAt
  generalize Sx.kall kk key (4 * (kk + 7)) = l
  have h := fun (l : List UInt8) (i j : Nat) => List.take_add (l := l) (i := i) (j := j)
  rw [show (16 : Nat) = 4 + 4 + 4 + 4 from rfl, h, h, h, List.drop_drop, List.drop_drop, List.drop_drop]
  rw [show 4 * (4 * j) = (4 + 4 + 4 + 4) * j by omega, show 4 * (4 * j + 1) = (4 + 4 + 4 + 4) * j + 4 by omega, show 4 * (4 * j + 2) = (4 + 4 + 4 + 4) * j + (4 + 4) by omega, show 4 * (4 * j + 3) = (4 + 4 + 4 + 4) * j + (4 + 4 + 4) by omega]
namespace Rw
theorem rkeys4 (s : ByteArray) (hs : s.size = 4 * 4) (w : World) : Calls Try.prog 116 #[.string s] w fun e w' => ∃ g cap, e = .returned (.slice (some ⟨g, 0, none⟩) 11 cap) ∧ w.heap.size ≤ g ∧ 11 ≤ cap ∧
      (∀ j, j < 11 → w'.cell? ⟨g, j, none⟩ = some (.string ⟨(Sx.keyAt 4 s.data.toList j).toArray⟩)) ∧ Below w.heap.size w w' := by
  have hmx : Try.prog.toTables.follows .mixedOrders = true := by kernel_rfl
  obtain ⟨iS, eS, zS, sS, bS⟩ := info_parts infoS
  have hlen : s.data.toList.length = 4 * 4 := by simpa using hs
  obtain ⟨kb, HKB⟩ : ∃ kb : Nat → ByteArray, Hid (∀ j, (kb j) = ⟨(Sx.keyAt 4 s.data.toList j).toArray⟩) := ⟨fun j => ⟨(Sx.keyAt 4 s.data.toList j).toArray⟩, fun _ => rfl⟩
  obtain ⟨wb, HWB⟩ : ∃ wb : Nat → ByteArray, Hid (∀ j, (wb j) = ⟨(Sx.wordAt 4 s.data.toList j).toArray⟩) := ⟨fun j => ⟨(Sx.wordAt 4 s.data.toList j).toArray⟩, fun _ => rfl⟩
  have HWL : Hid (∀ j, j < 44 → (wb j).size = 4) := by
    refine show ∀ j, _ from fun j hj => ?_
    rw [HWB.out]
    exact Sx.wordAt_length 4 _ hlen j hj
  have HKW : Hid (∀ j, wb (4 * j) ++ wb (4 * j + 1) ++ wb (4 * j + 2) ++ wb (4 * j + 3) = kb j) := by
    refine show ∀ j, _ from fun j => ?_
    rw [HWB.out, HWB.out, HWB.out, HWB.out, HKB.out, str_add, str_add, str_add, Sx.keyAt_words]
  obtain ⟨xf, HXF⟩ : ∃ xf : Nat → List Value, Hid (∀ n, xf n = (List.range n).map fun j => Value.string (kb j)) := ⟨fun n => (List.range n).map fun j => Value.string (kb j), fun _ => rfl⟩
  have HXS : Hid (∀ n, xf (n + 1) = xf n ++ [.string (kb n)]) := by
    refine show ∀ n, _ from fun n => ?_
    rw [HXF.out, HXF.out, List.range_succ, List.map_append]; rfl
  have HXG : Hid (∀ n j, j < n → (xf n)[j]? = some (.string (kb j))) := by
    refine show ∀ n j, _ from fun n j h => ?_
    rw [HXF.out]; simp [h]
  obtain ⟨yl, HYL⟩ : ∃ yl : List Value, Hid (yl = (List.range 44).map fun j => Value.string ⟨(Sx.wordAt 4 s.data.toList j).toArray⟩) := ⟨_, rfl⟩
  have HYG : Hid (∀ j, j < 44 → yl[j]? = some (.string (wb j))) := by
    refine show ∀ j, _ from fun j h => ?_
    rw [HYL.out, HWB.out]; simp [h]
  have CW : Hid (∀ w, Calls Try.prog 152 #[.string s] w fun e w' => ∃ v, e = .returned v ∧ Own w' w.heap.size 1 v 44 yl ∧ Below w.heap.size w w') := by
    refine show ∀ w, _ from fun w => ?_
    rw [HYL.out]
    exact words4 s hs w
  clear HYL hlen
  go_enter Try.func116, Try.ntmps116
  go_wp2_with (go_at_call 152; refine (CW.out _).mono ?_; rintro e w1 ⟨v, rfl, hO, hW⟩)
  obtain ⟨g, cap, rfl, hgb, hgl, hcap, _⟩ := hO.form (by omega)
  have hO1 := hO.alloc (.cells #[] 9)
  have hW1 := hW.alloc hW.size (.cells #[] 9)
  have hx0 : xf 0 = [] := by rw [HXF.out]; rfl
  have hX1 : Own (w1.alloc (.cells #[] 9)) w.heap.size 1 (.slice (some ⟨w1.heap.size, 0, none⟩) 0 0) 0 (xf 0) := by rw [hx0]; exact own_empty w1 w.heap.size 1 9 hW.size
  have hn1 : ∀ k, (Value.slice (some ⟨w1.heap.size, 0, none⟩) 0 0).ownBlock = some k → k ≠ g := fun k hk => by
    have : w1.heap.size = k := by simpa [Value.ownBlock] using hk
    omega
  clear hO hW hx0
  go_wp2
  go_loopw [4, 5] (fun v iv wr => ∃ j : Nat, j ≤ 11 ∧ iv = .int .i64 (4 * j : Nat) ∧ Own wr w.heap.size 1 v j (xf j) ∧ Own wr w.heap.size 1 (.slice (some ⟨g, 0, none⟩) 44 cap) 44 yl ∧ Below w.heap.size w wr ∧ (∀ k, v.ownBlock = some k → k ≠ g)) (fun _ iv _ => 44 - (intOf iv).toNat)
  case atStart => exact ⟨0, by omega, rfl, hX1, hO1, hW1, hn1⟩
  case round =>
    clear hX1 hO1 hW1 hn1
    obtain ⟨j, hj, rfl, hX, hO, hW, hne⟩ := hrel
    by_cases hlt : j < 11
    · obtain ⟨o, ho⟩ : ∃ o : Nat, o = 4 * j := ⟨_, rfl⟩
      obtain ⟨o1, ho1⟩ : ∃ o : Nat, o = 4 * j + 1 := ⟨_, rfl⟩
      obtain ⟨o2, ho2⟩ : ∃ o : Nat, o = 4 * j + 2 := ⟨_, rfl⟩
      obtain ⟨o3, ho3⟩ : ∃ o : Nat, o = 4 * j + 3 := ⟨_, rfl⟩
      have hk := HKW.out j
      have y0 := HYG.out o (by omega)
      have y1 := HYG.out o1 (by omega)
      have y2 := HYG.out o2 (by omega)
      have y3 := HYG.out o3 (by omega)
      have z0 := HWL.out o (by omega)
      have z1 := HWL.out o1 (by omega)
      have z2 := HWL.out o2 (by omega)
      have z3 := HWL.out o3 (by omega)
      have e1 : IntKind.i64.wrap ((o : Int) + 1) = (o1 : Int) := by rw [IntWalk.i64_in _ (by omega)]; omega
      have e2 : IntKind.i64.wrap ((o : Int) + 2) = (o2 : Int) := by rw [IntWalk.i64_in _ (by omega)]; omega
      have e3 : IntKind.i64.wrap ((o : Int) + 3) = (o3 : Int) := by rw [IntWalk.i64_in _ (by omega)]; omega
      have l0 : (o : Int) < 44 := by omega
      have l1 : (o1 : Int) < 44 := by omega
      have l2 : (o2 : Int) < 44 := by omega
      have l3 : (o3 : Int) < 44 := by omega
      have HS1 := Lib.hid (HXS.out j)
      rw [← ho3, ← ho2, ← ho1, ← ho] at hk
      rw [← ho]
      generalize wb o = a0 at y0 z0 hk
      generalize wb o1 = a1 at y1 z1 hk
      generalize wb o2 = a2 at y2 z2 hk
      generalize wb o3 = a3 at y3 z3 hk
      have HK := Lib.hid hk
      have HY0 := Lib.hid y0
      have HY1 := Lib.hid y1
      have HY2 := Lib.hid y2
      have HY3 := Lib.hid y3
      have HO := Lib.hid (show o + 4 = 4 * (j + 1) by omega)
      have hoj : o ≤ 44 - 4 := by omega
      clear ho ho1 ho2 ho3 hk y0 y1 y2 y3
      go_wp2_with fail
      go_region_held3 (fun W => W.cell? ⟨g, o, none⟩ = some (.string a0) ∧ W.cell? ⟨g, o1, none⟩ = some (.string a1) ∧ W.cell? ⟨g, o2, none⟩ = some (.string a2) ∧ W.cell? ⟨g, o3, none⟩ = some (.string a3))
        (first
          | exact ⟨hO.drew.cells _ _ HY0.out, hO.drew.cells _ _ HY1.out, hO.drew.cells _ _ HY2.out, hO.drew.cells _ _ HY3.out⟩
          | exact ⟨(hO.drew.alloc _).cells _ _ HY0.out, (hO.drew.alloc _).cells _ _ HY1.out, (hO.drew.alloc _).cells _ _ HY2.out, (hO.drew.alloc _).cells _ _ HY3.out⟩
          | exact ⟨hOw.cells _ _ HY0.out, hOw.cells _ _ HY1.out, hOw.cells _ _ HY2.out, hOw.cells _ _ HY3.out⟩
          | assumption)
        ((refine own_step rfl _ _ 88 rfl 9 iS (.string ⟨#[]⟩) 1 16 Try.underlying88 eS zS sS bS rfl (by decide) w.heap.size j _ _ rfl (hX.drew.alloc _) (by have := hW.size; simp; omega) ⟨wr.heap.size, 0, none⟩ 1 1 [.string (a0 ++ a1 ++ a2 ++ a3)] rfl rfl (one_new _ _ _) (by simp [Value.oneCell']) (by unfold maxLen; omega) (by omega) ?_; intro v' w9 hO' hg' hk' hkp; have hOw := (hO.drew.alloc _).kept hg' (fun k hk e => hne k e (by
                have : g = k := by simpa [Value.ownBlock] using hk
                exact this.symm))))
      all_goals
        go_wp2_with fail
        go_roundw
        case rel =>
          refine ⟨j + 1, by omega, by rw [← HO.out]; go_num, ?_, hOw, ?_, ?_⟩
          · rw [HS1.out, ← HK.out]
            exact hO'
          · exact (hW.drew.alloc hW.size _).grown hg' (by have := hW.size; simp; omega) (fun k hk => (hX.blk hk).1)
          · intro k hk
            rcases hk' k hk with h | h
            · exact hne k h
            · have hgg : g < wr.heap.size := (hO.blk rfl).2
              simp at h; omega
        case measure => simp [intOf]; omega
    · obtain rfl : j = 11 := by omega
      obtain ⟨g2, cap2, rfl, hgb2, hgl2, hcap2, hcells2⟩ := hX.form (by omega)
      rw [show (((4 * 11 : Nat) : Nat) : Int) = 44 from rfl]
      go_wp2
      go_ret
      exact ⟨g2, cap2, rfl, hgb2, hcap2, fun j hj => by rw [← HKB.out]; exact hcells2 j _ (HXG.out _ j hj), hW⟩
theorem rkeys8 (s : ByteArray) (hs : s.size = 4 * 8) (w : World) : Calls Try.prog 116 #[.string s] w fun e w' => ∃ g cap, e = .returned (.slice (some ⟨g, 0, none⟩) 15 cap) ∧ w.heap.size ≤ g ∧ 15 ≤ cap ∧
      (∀ j, j < 15 → w'.cell? ⟨g, j, none⟩ = some (.string ⟨(Sx.keyAt 8 s.data.toList j).toArray⟩)) ∧ Below w.heap.size w w' := by
  have hmx : Try.prog.toTables.follows .mixedOrders = true := by kernel_rfl
  obtain ⟨iS, eS, zS, sS, bS⟩ := info_parts infoS
  have hlen : s.data.toList.length = 4 * 8 := by simpa using hs
  obtain ⟨kb, HKB⟩ : ∃ kb : Nat → ByteArray, Hid (∀ j, (kb j) = ⟨(Sx.keyAt 8 s.data.toList j).toArray⟩) := ⟨fun j => ⟨(Sx.keyAt 8 s.data.toList j).toArray⟩, fun _ => rfl⟩
  obtain ⟨wb, HWB⟩ : ∃ wb : Nat → ByteArray, Hid (∀ j, (wb j) = ⟨(Sx.wordAt 8 s.data.toList j).toArray⟩) := ⟨fun j => ⟨(Sx.wordAt 8 s.data.toList j).toArray⟩, fun _ => rfl⟩
  have HWL : Hid (∀ j, j < 60 → (wb j).size = 4) := by
    refine show ∀ j, _ from fun j hj => ?_
    rw [HWB.out]
    exact Sx.wordAt_length 8 _ hlen j hj
  have HKW : Hid (∀ j, wb (4 * j) ++ wb (4 * j + 1) ++ wb (4 * j + 2) ++ wb (4 * j + 3) = kb j) := by
    refine show ∀ j, _ from fun j => ?_
    rw [HWB.out, HWB.out, HWB.out, HWB.out, HKB.out, str_add, str_add, str_add, Sx.keyAt_words]
  obtain ⟨xf, HXF⟩ : ∃ xf : Nat → List Value, Hid (∀ n, xf n = (List.range n).map fun j => Value.string (kb j)) := ⟨fun n => (List.range n).map fun j => Value.string (kb j), fun _ => rfl⟩
  have HXS : Hid (∀ n, xf (n + 1) = xf n ++ [.string (kb n)]) := by
    refine show ∀ n, _ from fun n => ?_
    rw [HXF.out, HXF.out, List.range_succ, List.map_append]; rfl
  have HXG : Hid (∀ n j, j < n → (xf n)[j]? = some (.string (kb j))) := by
    refine show ∀ n j, _ from fun n j h => ?_
    rw [HXF.out]; simp [h]
  obtain ⟨yl, HYL⟩ : ∃ yl : List Value, Hid (yl = (List.range 60).map fun j => Value.string ⟨(Sx.wordAt 8 s.data.toList j).toArray⟩) := ⟨_, rfl⟩
  have HYG : Hid (∀ j, j < 60 → yl[j]? = some (.string (wb j))) := by
    refine show ∀ j, _ from fun j h => ?_
    rw [HYL.out, HWB.out]; simp [h]
  have CW : Hid (∀ w, Calls Try.prog 152 #[.string s] w fun e w' => ∃ v, e = .returned v ∧ Own w' w.heap.size 1 v 60 yl ∧ Below w.heap.size w w') := by
    refine show ∀ w, _ from fun w => ?_
    rw [HYL.out]
    exact words8 s hs w
  clear HYL hlen
  go_enter Try.func116, Try.ntmps116
  go_wp2_with (go_at_call 152; refine (CW.out _).mono ?_; rintro e w1 ⟨v, rfl, hO, hW⟩)
  obtain ⟨g, cap, rfl, hgb, hgl, hcap, _⟩ := hO.form (by omega)
  have hO1 := hO.alloc (.cells #[] 9)
  have hW1 := hW.alloc hW.size (.cells #[] 9)
  have hx0 : xf 0 = [] := by rw [HXF.out]; rfl
  have hX1 : Own (w1.alloc (.cells #[] 9)) w.heap.size 1 (.slice (some ⟨w1.heap.size, 0, none⟩) 0 0) 0 (xf 0) := by rw [hx0]; exact own_empty w1 w.heap.size 1 9 hW.size
  have hn1 : ∀ k, (Value.slice (some ⟨w1.heap.size, 0, none⟩) 0 0).ownBlock = some k → k ≠ g := fun k hk => by
    have : w1.heap.size = k := by simpa [Value.ownBlock] using hk
    omega
  clear hO hW hx0
  go_wp2
  go_loopw [4, 5] (fun v iv wr => ∃ j : Nat, j ≤ 15 ∧ iv = .int .i64 (4 * j : Nat) ∧ Own wr w.heap.size 1 v j (xf j) ∧ Own wr w.heap.size 1 (.slice (some ⟨g, 0, none⟩) 60 cap) 60 yl ∧ Below w.heap.size w wr ∧ (∀ k, v.ownBlock = some k → k ≠ g)) (fun _ iv _ => 60 - (intOf iv).toNat)
  case atStart => exact ⟨0, by omega, rfl, hX1, hO1, hW1, hn1⟩
  case round =>
    clear hX1 hO1 hW1 hn1
    obtain ⟨j, hj, rfl, hX, hO, hW, hne⟩ := hrel
    by_cases hlt : j < 15
    · obtain ⟨o, ho⟩ : ∃ o : Nat, o = 4 * j := ⟨_, rfl⟩
      obtain ⟨o1, ho1⟩ : ∃ o : Nat, o = 4 * j + 1 := ⟨_, rfl⟩
      obtain ⟨o2, ho2⟩ : ∃ o : Nat, o = 4 * j + 2 := ⟨_, rfl⟩
      obtain ⟨o3, ho3⟩ : ∃ o : Nat, o = 4 * j + 3 := ⟨_, rfl⟩
      have hk := HKW.out j
      have y0 := HYG.out o (by omega)
      have y1 := HYG.out o1 (by omega)
      have y2 := HYG.out o2 (by omega)
      have y3 := HYG.out o3 (by omega)
      have z0 := HWL.out o (by omega)
      have z1 := HWL.out o1 (by omega)
      have z2 := HWL.out o2 (by omega)
      have z3 := HWL.out o3 (by omega)
      have e1 : IntKind.i64.wrap ((o : Int) + 1) = (o1 : Int) := by rw [IntWalk.i64_in _ (by omega)]; omega
      have e2 : IntKind.i64.wrap ((o : Int) + 2) = (o2 : Int) := by rw [IntWalk.i64_in _ (by omega)]; omega
      have e3 : IntKind.i64.wrap ((o : Int) + 3) = (o3 : Int) := by rw [IntWalk.i64_in _ (by omega)]; omega
      have l0 : (o : Int) < 60 := by omega
      have l1 : (o1 : Int) < 60 := by omega
      have l2 : (o2 : Int) < 60 := by omega
      have l3 : (o3 : Int) < 60 := by omega
      have HS1 := Lib.hid (HXS.out j)
      rw [← ho3, ← ho2, ← ho1, ← ho] at hk
      rw [← ho]
      generalize wb o = a0 at y0 z0 hk
      generalize wb o1 = a1 at y1 z1 hk
      generalize wb o2 = a2 at y2 z2 hk
      generalize wb o3 = a3 at y3 z3 hk
      have HK := Lib.hid hk
      have HY0 := Lib.hid y0
      have HY1 := Lib.hid y1
      have HY2 := Lib.hid y2
      have HY3 := Lib.hid y3
      have HO := Lib.hid (show o + 4 = 4 * (j + 1) by omega)
      have hoj : o ≤ 60 - 4 := by omega
      clear ho ho1 ho2 ho3 hk y0 y1 y2 y3
      go_wp2_with fail
      go_region_held3 (fun W => W.cell? ⟨g, o, none⟩ = some (.string a0) ∧ W.cell? ⟨g, o1, none⟩ = some (.string a1) ∧ W.cell? ⟨g, o2, none⟩ = some (.string a2) ∧ W.cell? ⟨g, o3, none⟩ = some (.string a3))
        (first
          | exact ⟨hO.drew.cells _ _ HY0.out, hO.drew.cells _ _ HY1.out, hO.drew.cells _ _ HY2.out, hO.drew.cells _ _ HY3.out⟩
          | exact ⟨(hO.drew.alloc _).cells _ _ HY0.out, (hO.drew.alloc _).cells _ _ HY1.out, (hO.drew.alloc _).cells _ _ HY2.out, (hO.drew.alloc _).cells _ _ HY3.out⟩
          | exact ⟨hOw.cells _ _ HY0.out, hOw.cells _ _ HY1.out, hOw.cells _ _ HY2.out, hOw.cells _ _ HY3.out⟩
          | assumption)
        ((refine own_step rfl _ _ 88 rfl 9 iS (.string ⟨#[]⟩) 1 16 Try.underlying88 eS zS sS bS rfl (by decide) w.heap.size j _ _ rfl (hX.drew.alloc _) (by have := hW.size; simp; omega) ⟨wr.heap.size, 0, none⟩ 1 1 [.string (a0 ++ a1 ++ a2 ++ a3)] rfl rfl (one_new _ _ _) (by simp [Value.oneCell']) (by unfold maxLen; omega) (by omega) ?_; intro v' w9 hO' hg' hk' hkp; have hOw := (hO.drew.alloc _).kept hg' (fun k hk e => hne k e (by
                have : g = k := by simpa [Value.ownBlock] using hk
                exact this.symm))))
      all_goals
        go_wp2_with fail
        go_roundw
        case rel =>
          refine ⟨j + 1, by omega, by rw [← HO.out]; go_num, ?_, hOw, ?_, ?_⟩
          · rw [HS1.out, ← HK.out]
            exact hO'
          · exact (hW.drew.alloc hW.size _).grown hg' (by have := hW.size; simp; omega) (fun k hk => (hX.blk hk).1)
          · intro k hk
            rcases hk' k hk with h | h
            · exact hne k h
            · have hgg : g < wr.heap.size := (hO.blk rfl).2
              simp at h; omega
        case measure => simp [intOf]; omega
    · obtain rfl : j = 15 := by omega
      obtain ⟨g2, cap2, rfl, hgb2, hgl2, hcap2, hcells2⟩ := hX.form (by omega)
      rw [show (((4 * 15 : Nat) : Nat) : Int) = 60 from rfl]
      go_wp2
      go_ret
      exact ⟨g2, cap2, rfl, hgb2, hcap2, fun j hj => by rw [← HKB.out]; exact hcells2 j _ (HXG.out _ j hj), hW⟩
end Rw
end Go.Proofs.Ytieooonobjkglaa
namespace Go.Proofs.Ytieooonobjkglaa
open Go Go.Proofs Go.RowKit Go.Shelf SW
set_option maxRecDepth 20000
set_option maxHeartbeats 8000000
namespace Rw
theorem xorL_withKey (l k : List UInt8) (hl : l.length = 16) : Sx.xorL l k = Sx.withKey l k := by unfold Sx.xorL Sx.withKey; rw [hl]
theorem rkeys_any (kk : Nat) (hk : kk = 4 ∨ kk = 8) (s : ByteArray) (hs : s.size = 4 * kk) (w : World) : Calls Try.prog 116 #[.string s] w fun e w' => ∃ g cap, e = .returned (.slice (some ⟨g, 0, none⟩) (kk + 7) cap) ∧ w.heap.size ≤ g ∧ kk + 7 ≤ cap ∧
      (∀ j, j < kk + 7 → w'.cell? ⟨g, j, none⟩ = some (.string ⟨(Sx.keyAt kk s.data.toList j).toArray⟩)) ∧ Below w.heap.size w w' := by
  rcases hk with rfl | rfl
  · exact rkeys4 s hs w
  · exact rkeys8 s hs w
theorem rencrypt_any (kk : Nat) (hk : kk = 4 ∨ kk = 8) (key s : ByteArray) (hkey : key.size = 4 * kk) (hs : s.size = 16) (w : World) :
    Calls Try.prog 88 #[.string key, .string s] w fun e w' => e = .returned (.string ⟨(Sx.aes kk key.data.toList s.data.toList).toArray⟩) ∧ Below w.heap.size w w' := by
  have hlen : key.data.toList.length = 4 * kk := by simpa using hkey
  have hsl : s.data.toList.length = 16 := by simpa using hs
  obtain ⟨kf, HKF⟩ : ∃ kf : Nat → ByteArray, Hid (∀ j, (kf j) = ⟨(Sx.keyAt kk key.data.toList j).toArray⟩) := ⟨fun j => ⟨(Sx.keyAt kk key.data.toList j).toArray⟩, fun _ => rfl⟩
  obtain ⟨R, HR⟩ : ∃ R : Nat → ByteArray, Hid (∀ i, (R i) = ⟨(Sx.rounds (kk + 7) (fun j => Sx.keyAt kk key.data.toList j) (Sx.withKey s.data.toList (Sx.keyAt kk key.data.toList 0)) i).toArray⟩) := ⟨fun i => ⟨(Sx.rounds (kk + 7) (fun j => Sx.keyAt kk key.data.toList j) (Sx.withKey s.data.toList (Sx.keyAt kk key.data.toList 0)) i).toArray⟩, fun _ => rfl⟩
  have HL : Hid (∀ i, (R i).size = 16) := by
    refine show ∀ i, _ from fun i => ?_
    rw [HR.out]
    exact Sx.rounds_length _ _ _ (Sx.withKey_length _ _) _
  have HKL : Hid (∀ i, i < kk + 7 → (kf i).size = 16) := by
    refine show ∀ i, _ from fun i h => ?_
    rw [HKF.out]
    exact Sx.keyAt_length kk _ hlen i h
  have HS : Hid (∀ i, R (i + 1) = ⟨(Sx.withKey (if i + 2 < kk + 7 then Sx.mixed (Sx.turned ((R i).data.toList.map Sx.box)) else Sx.turned ((R i).data.toList.map Sx.box)) (kf (i + 1)).data.toList).toArray⟩) := by
    refine show ∀ i, _ from fun i => ?_
    rw [HR.out, HR.out, HKF.out]; rfl
  have H0 : Hid (R 0 = ⟨(Sx.withKey s.data.toList (kf 0).data.toList).toArray⟩) := by
    refine show _ = _ from ?_
    rw [HR.out, HKF.out]; rfl
  have HE : Hid ((⟨(Sx.aes kk key.data.toList s.data.toList).toArray⟩ : ByteArray) = R (kk + 7 - 1)) := by
    refine show _ = _ from ?_
    rw [HR.out]; rfl
  have CK : Hid (∀ w, Calls Try.prog 116 #[.string key] w fun e w' => ∃ g cap, e = .returned (.slice (some ⟨g, 0, none⟩) (kk + 7) cap) ∧ w.heap.size ≤ g ∧ kk + 7 ≤ cap ∧
      (∀ j, j < kk + 7 → w'.cell? ⟨g, j, none⟩ = some (.string (kf j))) ∧ Below w.heap.size w w') := by
    refine show ∀ w, _ from fun w => (rkeys_any kk hk key hkey w).mono fun e w' ⟨g, cap, h1, h2, h3, h4, h5⟩ => ⟨g, cap, h1, h2, h3, fun j hj => by rw [HKF.out]; exact h4 j hj, h5⟩
  have hn : ∃ n, n = kk + 7 ∧ 2 ≤ n ∧ n ≤ 100 := ⟨kk + 7, rfl, by omega, by omega⟩
  have C0 : Hid (∀ w, Calls Try.prog 117 #[.string s, .string (kf 0)] w fun e w' => e = .returned (.string (R 0)) ∧ Below w.heap.size w w') := by
    refine show ∀ w, _ from fun w => ?_
    have := rxor6_any s (kf 0) (by rw [HKL.out 0 (by omega)]; omega) (by omega) w
    rwa [xorL_withKey _ _ hsl, ← H0.out] at this
  rw [HE.out]
  obtain ⟨n, hn, hn2, hn3⟩ := hn
  rw [← hn]
  rw [← hn] at HKL HS CK
  clear hn HR HKF H0 HE hkey hlen hk
  go_enter Try.func88, Try.ntmps88
  have hn0 : (0 : Int) < (n : Int) := by omega
  go_wp2_with (first
    | (go_at_call 116; refine (CK.out _).mono ?_; rintro e w1 ⟨g, cap, rfl, hg, hcap, hcells, hW⟩; have HC := Lib.hid hcells; have c0 := hcells 0 (by omega); clear hcells)
    | (go_at_call 117; refine (C0.out _).mono ?_; rintro e w2 ⟨rfl, hk2⟩))
  go_loopw [6, 7] (fun v iv wr => ∃ p i : Nat, p = i + 1 ∧ p ≤ n ∧ iv = .int .i64 p ∧ v = .string (R i) ∧ Below w1.heap.size w1 wr) (fun _ iv _ => n - (intOf iv).toNat)
  case atStart => exact ⟨1, 0, rfl, by omega, rfl, rfl, hk2⟩
  case round =>
    clear hk2 c0
    obtain ⟨p, i, hpi, hp, rfl, rfl, hB⟩ := hrel
    by_cases hlt : p < n
    · have hlti : (p : Int) < (n : Int) := by omega
      have cp : wr.cell? ⟨g, p, none⟩ = some (.string (kf p)) := by
        have := HC.out p hlt
        rw [hB.cell (World.block_lt_of_cell? _ _ this)]; exact this
      have hs1 := HS.out i
      have hLi := HL.out i
      have hLp := HKL.out p hlt
      rw [← hpi] at hs1
      have hml : ((R i).data.toList.map Sx.box).length = 16 := by rw [List.length_map, Array.length_toList]; exact hLi
      have htl := Sx.turned_length ((R i).data.toList.map Sx.box)
      have CB : Hid (∀ w, Calls Try.prog 119 #[.string (R i)] w fun e w' => e = .returned (.string ⟨((R i).data.toList.map Sx.box).toArray⟩) ∧ Below w.heap.size w w') := by exact rboxed_any (R i) (by omega)
      generalize (R i).data.toList.map Sx.box = b at hs1 CB hml htl
      have CT : Hid (∀ w, Calls Try.prog 118 #[.string ⟨b.toArray⟩] w fun e w' => e = .returned (.string ⟨(Sx.turned b).toArray⟩) ∧ Below w.heap.size w w') := by
        exact fun w => by have := rturned_any ⟨b.toArray⟩ (by rw [ba_len]; exact hml) w; exact this
      generalize Sx.turned b = t at hs1 CT htl
      have CM : Hid (∀ w, Calls Try.prog 120 #[.string ⟨t.toArray⟩] w fun e w' => e = .returned (.string ⟨(Sx.mixed t).toArray⟩) ∧ Below w.heap.size w w') := by
        exact fun w => by have := rmixed_any ⟨t.toArray⟩ (by rw [ba_len]; exact htl) w; exact this
      by_cases h2 : p + 1 < n
      · have hn2' : (p : Int) + 1 < (n : Int) := by omega
        rw [if_pos (by omega)] at hs1
        have hm := Sx.mixed_length t
        generalize Sx.mixed t = m at hs1 CM hm
        have CX : Hid (∀ w, Calls Try.prog 117 #[.string ⟨m.toArray⟩, .string (kf p)] w fun e w' => e = .returned (.string (R p)) ∧ Below w.heap.size w w') := by
          refine show ∀ w, _ from fun w => ?_
          have := rxor6_any ⟨m.toArray⟩ (kf p) (by rw [ba_len, hLp, hm]; exact Nat.le_refl _) (by rw [ba_len, hm]; omega) w
          rwa [show (⟨m.toArray⟩ : ByteArray).data.toList = m from rfl, xorL_withKey _ _ hm, ← hs1] at this
        clear hs1 hm htl hml h2 hLi hLp hlt hpi
        go_wp2_with (first
          | (go_at_call 119; refine (CB.out _).mono ?_; rintro e w3 ⟨rfl, k3⟩)
          | (go_at_call 118; refine (CT.out _).mono ?_; rintro e w4 ⟨rfl, k4⟩)
          | (go_at_call 120; refine (CM.out _).mono ?_; rintro e w5 ⟨rfl, k5⟩; replace hB := ((hB.trans (k3.mono hB.size)).trans (k4.mono (Nat.le_trans hB.size k3.size))).trans (k5.mono (Nat.le_trans (Nat.le_trans hB.size k3.size) k4.size)); have cp : w5.cell? ⟨g, p, none⟩ = some (.string (kf p)) := by
              have := HC.out p (by omega)
              rw [hB.cell (World.block_lt_of_cell? _ _ this)]; exact this)
          | (go_at_call 117; refine (CX.out _).mono ?_; rintro e w6 ⟨rfl, k6⟩; replace hB := hB.trans (k6.mono hB.size)))
        go_roundw
        case rel => exact ⟨p + 1, p, rfl, by omega, by go_num, rfl, hB⟩
        case measure => simp [intOf]; omega
      · have hn2' : ¬ ((p : Int) + 1 < (n : Int)) := by omega
        rw [if_neg (by omega)] at hs1
        have CX : Hid (∀ w, Calls Try.prog 117 #[.string ⟨t.toArray⟩, .string (kf p)] w fun e w' => e = .returned (.string (R p)) ∧ Below w.heap.size w w') := by
          refine show ∀ w, _ from fun w => ?_
          have := rxor6_any ⟨t.toArray⟩ (kf p) (by rw [ba_len, hLp, htl]; exact Nat.le_refl _) (by rw [ba_len, htl]; omega) w
          rwa [show (⟨t.toArray⟩ : ByteArray).data.toList = t from rfl, xorL_withKey _ _ htl, ← hs1] at this
        clear hs1 htl hml h2 hLi hLp hlt CM hpi
        go_wp2_with (first
          | (go_at_call 119; refine (CB.out _).mono ?_; rintro e w3 ⟨rfl, k3⟩)
          | (go_at_call 118; refine (CT.out _).mono ?_; rintro e w4 ⟨rfl, k4⟩; replace hB := (hB.trans (k3.mono hB.size)).trans (k4.mono (Nat.le_trans hB.size k3.size)); have cp : w4.cell? ⟨g, p, none⟩ = some (.string (kf p)) := by
              have := HC.out p (by omega)
              rw [hB.cell (World.block_lt_of_cell? _ _ this)]; exact this)
          | (go_at_call 117; refine (CX.out _).mono ?_; rintro e w6 ⟨rfl, k6⟩; replace hB := hB.trans (k6.mono hB.size)))
        go_roundw
        case rel => exact ⟨p + 1, p, rfl, by omega, by go_num, rfl, hB⟩
        case measure => simp [intOf]; omega
    · obtain rfl : p = n := by omega
      go_wp2
      go_ret
      rw [show p - 1 = i by omega]
      exact ⟨rfl, hW.trans (hB.mono hW.size)⟩
end Rw
end Go.Proofs.Ytieooonobjkglaa
namespace Go.Proofs.Ytieooonobjkglaa
open Go Go.Proofs Go.RowKit Go.Shelf SW
set_option maxRecDepth 20000
set_option maxHeartbeats 8000000
namespace Rw
section
attribute [local go_sem] U32_b3 U32_b2 U32_b1 U32_b0 U32_one U32_one'
theorem U32_lo (a : UInt32) : (0 : Int) ≤ U32 a := by unfold U32; omega
theorem U32_hi (a : UInt32) : U32 a < (4294967296 : Int) := by unfold U32; have := a.toNat_lt; omega
theorem U8_mod (x : UInt8) : U8 x % (256 : Int) = U8 x := by unfold U8; have := x.toNat_lt; omega
theorem U32_top (a : UInt32) : U32 a / (16777216 : Int) = U8 (a >>> 24).toUInt8 := by
  rw [← U32_b3]
  have h1 := U32_lo a
  have h2 := U32_hi a
  omega
attribute [local go_sem] U8_mod
theorem rcounter_any (n : UInt32) (w : World) : Calls Try.prog 90 #[.int .u32 (U32 n)] w fun e w' => e = .returned (.string ⟨(Sx.ctr n).toArray⟩) ∧ Below w.heap.size w w' := by
  have hB := Blk.new w (bv (Sx.ctr n)) 5
  have hcv := bytes_back (P := Try.prog) 32 9 5 Try.underlying32 Try.underlying5 Try.underlying9 hB 4 4 rfl
  have hWa : Below w.heap.size w (w.alloc (Obj.cells (bv (Sx.ctr n)) 5)) := (Below.refl _ _).alloc (Nat.le_refl _) _
  have hbv : bv (Sx.ctr n) = #[.int .u8 (U32 n / 16777216), .int .u8 (U8 (n >>> 16).toUInt8), .int .u8 (U8 (n >>> 8).toUInt8), .int .u8 (U8 n.toUInt8)] := by rw [U32_top]; rfl
  rw [hbv] at hcv hB hWa
  have h1 := U32_lo n
  have h2 := U32_hi n
  generalize Sx.ctr n = cf at hcv ⊢
  clear hbv
  go_enter Try.func90, Try.ntmps90
  go_wp2
  go_ret
  exact ⟨rfl, hWa⟩
theorem rstream_any (kk : Nat) (hk : kk = 4 ∨ kk = 8) (key nonce : ByteArray) (hkey : key.size = 4 * kk) (hn : nonce.size = 12) (f : UInt32) (many : Nat) (hm : many ≤ 5000) (w : World) :
    Calls Try.prog 41 #[.string key, .string nonce, .int .u32 (U32 f), .int .i64 many] w fun e w' =>
      e = .returned (.string ⟨(Sx.stream kk key.data.toList nonce.data.toList f many).toArray⟩) ∧ Below w.heap.size w w' := by
  have HN := Lib.hid hn
  have HK := Lib.hid hkey
  clear hn hkey
  go_enter Try.func41, Try.ntmps41
  go_wp2_with fail
  go_loopw [2, 9] (fun fv sv wr => ∃ j : Nat, j ≤ (many + 15) / 16 ∧ fv = .int .u32 (U32 (f + UInt32.ofNat j)) ∧ sv = .string ⟨(Sx.streamN kk key.data.toList nonce.data.toList f j).toArray⟩ ∧ Below w.heap.size w wr)
    (fun fv _ _ => 400 - ((intOf fv - U32 f) % 4294967296).toNat)
  case atStart => exact ⟨0, by omega, by simp, rfl, Below.refl _ _⟩
  case round =>
    obtain ⟨j, hj, rfl, rfl, gW⟩ := hrel
    have hlen := Sx.streamN_length kk key.data.toList nonce.data.toList f j
    by_cases hlt : 16 * j < many
    · generalize hacc : Sx.streamN kk key.data.toList nonce.data.toList f j = acc at hlen
      have hd : 16 * (j : Int) < many := by omega
      generalize hfj : f + UInt32.ofNat j = fj
      have HACC := Lib.hid hacc
      have HFJ := Lib.hid hfj
      clear hacc hfj hlt
      have hb4 : (⟨(Sx.ctr fj).toArray⟩ : ByteArray).size = 4 := rfl
      have hn12 : nonce.size ≤ 12 := by have := HN.out; omega
      have C0 : Hid (∀ w, Calls Try.prog 90 #[.int .u32 (U32 fj)] w fun e w' => e = .returned (.string ⟨(Sx.ctr fj).toArray⟩) ∧ Below w.heap.size w w') := by exact rcounter_any fj
      have C1 : Hid (∀ w, Calls Try.prog 88 #[.string key, .string (nonce ++ ⟨(Sx.ctr fj).toArray⟩)] w fun e w' => e = .returned (.string ⟨(Sx.aes kk key.data.toList (nonce.data.toList ++ Sx.ctr fj)).toArray⟩) ∧ Below w.heap.size w w') := by
        refine show ∀ w, _ from fun w => ?_
        have := rencrypt_any kk hk key (nonce ++ ⟨(Sx.ctr fj).toArray⟩) HK.out (by rw [ByteArray.size_append, HN.out]; rfl) w
        rwa [show (nonce ++ ⟨(Sx.ctr fj).toArray⟩ : ByteArray).data.toList = nonce.data.toList ++ Sx.ctr fj by simp] at this
      have hstep : Sx.streamN kk key.data.toList nonce.data.toList f (j + 1) = acc ++ Sx.aes kk key.data.toList (nonce.data.toList ++ Sx.ctr fj) := by
        rw [Sx.streamN, HACC.out, HFJ.out]
      have hbl := Sx.aes_length kk key.data.toList (nonce.data.toList ++ Sx.ctr fj)
      generalize Sx.aes kk key.data.toList (nonce.data.toList ++ Sx.ctr fj) = blk at C1 hstep hbl
      have hbl' : (⟨blk.toArray⟩ : ByteArray).size = 16 := by simpa [ByteArray.size] using hbl
      have hal' : (⟨acc.toArray⟩ : ByteArray).size = 16 * j := by simpa [ByteArray.size] using hlen
      have hsa : (⟨acc.toArray⟩ : ByteArray) ++ ⟨blk.toArray⟩ = ⟨(acc ++ blk).toArray⟩ := str_add _ _
      have HST := Lib.hid hstep
      have HSA := Lib.hid hsa
      clear hstep hbl hlen hsa
      generalize (⟨acc.toArray⟩ : ByteArray) = accb at hal' HSA
      generalize (⟨blk.toArray⟩ : ByteArray) = blkb at hbl' C1 HSA
      generalize (⟨(Sx.ctr fj).toArray⟩ : ByteArray) = cb at hb4 C0 C1
      go_wp2_with (first
        | (go_at_call 90; refine (C0.out _).mono ?_; rintro e w1 ⟨rfl, hk1⟩)
        | (go_at_call 88; refine (C1.out _).mono ?_; rintro e w2 ⟨rfl, hk2⟩))
      go_roundw
      case rel =>
        refine ⟨j + 1, by omega, ?_, ?_, Below.callee (Below.callee gW hk1) hk2⟩
        · rw [← HFJ.out]
          congr 2
          rw [UInt32.add_assoc, UInt32.ofNat_add]
          rfl
        · rw [HST.out, HSA.out]
      case measure =>
        have e := HFJ.out
        have e2 : fj + 1 = f + UInt32.ofNat (j + 1) := by rw [← e, UInt32.add_assoc, UInt32.ofNat_add]; rfl
        have d1 := ctr_dist f j (by omega)
        have d2 := ctr_dist f (j + 1) (by omega)
        rw [e] at d1
        rw [← e2] at d2
        simp [intOf, d1, d2]
        omega
    · obtain rfl : j = (many + 15) / 16 := by omega
      have hd : ¬ (16 * (((many + 15) / 16 : Nat) : Int) < many) := by omega
      have HR : Hid (Sx.stream kk key.data.toList nonce.data.toList f many = (Sx.streamN kk key.data.toList nonce.data.toList f ((many + 15) / 16)).take many) := by exact rfl
      generalize hj9 : (many + 15) / 16 = j at *
      generalize Sx.streamN kk key.data.toList nonce.data.toList f j = acc at *
      have hsl := fun W => str_take (P := Try.prog) 9 Try.underlying9 acc many (by omega) W
      have hal' : (⟨acc.toArray⟩ : ByteArray).size = 16 * j := by simpa [ByteArray.size] using hlen
      generalize (⟨acc.toArray⟩ : ByteArray) = accb at hal' hsl
      clear hj9 hlt hlen
      go_wp2_with fail
      go_ret
      rw [HR.out]
      exact ⟨rfl, gW⟩
end
end Rw
end Go.Proofs.Ytieooonobjkglaa
namespace Go.Proofs.Ytieooonobjkglaa
open Go Go.Proofs Go.RowKit Go.Shelf SW
set_option maxRecDepth 20000
set_option maxHeartbeats 8000000
namespace Rw
theorem rtag_any (kk : Nat) (hk : kk = 4 ∨ kk = 8) (key nonce head text : ByteArray) (hkey : key.size = 4 * kk) (hn : nonce.size = 12) (hh : head.size ≤ 100000) (ht : text.size ≤ 100000) (w : World) :
    Calls Try.prog 39 #[.string key, .string nonce, .string head, .string text] w fun e w' =>
      e = .returned (.string ⟨(Sx.tag kk key.data.toList nonce.data.toList head.data.toList text.data.toList).toArray⟩) ∧ Below w.heap.size w w' := by
  have HR : Hid (Sx.tag kk key.data.toList nonce.data.toList head.data.toList text.data.toList = Sx.xorL (Sx.sum (Sx.hkey kk key.data.toList) head.data.toList text.data.toList) (Sx.stream kk key.data.toList nonce.data.toList 1 16)) := by exact rfl
  have C1 : Hid (∀ w, Calls Try.prog 88 #[.string key, .string ⟨(List.replicate 16 0).toArray⟩] w fun e w' => e = .returned (.string ⟨(Sx.hkey kk key.data.toList).toArray⟩) ∧ Below w.heap.size w w') := by
    exact fun w => rencrypt_any kk hk key ⟨(List.replicate 16 0).toArray⟩ hkey rfl w
  have C2 : Hid (∀ w, Calls Try.prog 89 #[.string ⟨(Sx.hkey kk key.data.toList).toArray⟩, .string head, .string text] w fun e w' => e = .returned (.string ⟨(Sx.sum (Sx.hkey kk key.data.toList) head.data.toList text.data.toList).toArray⟩) ∧ Below w.heap.size w w') := by
    exact fun w => rsum_any ⟨(Sx.hkey kk key.data.toList).toArray⟩ head text (by rw [ba_len]; exact Sx.aes_length _ _ _) hh ht w
  have C3 : Hid (∀ w, Calls Try.prog 41 #[.string key, .string nonce, .int .u32 1, .int .i64 16] w fun e w' => e = .returned (.string ⟨(Sx.stream kk key.data.toList nonce.data.toList 1 16).toArray⟩) ∧ Below w.heap.size w w') := by
    exact fun w => rstream_any kk hk key nonce hkey hn 1 16 (by omega) w
  have hsl : (Sx.sum (Sx.hkey kk key.data.toList) head.data.toList text.data.toList).length = 16 := Sx.sum_length _ _ _
  have hml : (Sx.stream kk key.data.toList nonce.data.toList 1 16).length = 16 := Sx.stream_length _ _ _ _ _
  generalize Sx.sum (Sx.hkey kk key.data.toList) head.data.toList text.data.toList = sm at C2 HR hsl
  generalize Sx.stream kk key.data.toList nonce.data.toList 1 16 = sk at C3 HR hml
  generalize Sx.hkey kk key.data.toList = hk' at C1 C2
  have C4 : Hid (∀ w, Calls Try.prog 40 #[.string ⟨sm.toArray⟩, .string ⟨sk.toArray⟩] w fun e w' => e = .returned (.string ⟨(Sx.xorL sm sk).toArray⟩) ∧ Below w.heap.size w w') := by
    exact fun w => rxor7_any ⟨sm.toArray⟩ ⟨sk.toArray⟩ (by rw [ba_len, ba_len]; omega) (by rw [ba_len]; omega) w
  clear hsl hml hkey hn
  have hB := Blk.new w (bv (List.replicate 16 0)) 5
  have hcv := bytes_back (P := Try.prog) 32 9 5 Try.underlying32 Try.underlying5 Try.underlying9 hB 16 16 rfl
  have hWa : Below w.heap.size w (w.alloc (Obj.cells (bv (List.replicate 16 0)) 5)) := (Below.refl _ _).alloc (Nat.le_refl _) _
  have hbv : bv (List.replicate 16 (0 : UInt8)) = #[.int .u8 0, .int .u8 0, .int .u8 0, .int .u8 0, .int .u8 0, .int .u8 0, .int .u8 0, .int .u8 0, .int .u8 0, .int .u8 0, .int .u8 0, .int .u8 0, .int .u8 0, .int .u8 0, .int .u8 0, .int .u8 0] := rfl
  rw [hbv] at hcv hWa
  clear hB hbv
  generalize (List.replicate 16 (0 : UInt8)) = zz at C1 hcv
  go_enter Try.func39, Try.ntmps39
  go_wp2_with (first
    | (go_at_call 88; refine (C1.out _).mono ?_; rintro e w1 ⟨rfl, hk1⟩)
    | (go_at_call 89; refine (C2.out _).mono ?_; rintro e w2 ⟨rfl, hk2⟩)
    | (go_at_call 41; refine (C3.out _).mono ?_; rintro e w3 ⟨rfl, hk3⟩)
    | (go_at_call 40; refine (C4.out _).mono ?_; rintro e w4 ⟨rfl, hk4⟩))
  go_ret
  rw [HR.out]
  exact ⟨rfl, Below.callee (Below.callee (Below.callee (Below.callee hWa hk1) hk2) hk3) hk4⟩
theorem rkey_any (key : ByteArray) (b : Bool) (hb : (key.size = 16 ∨ key.size = 32) = (b = true)) (w : World) : Calls Try.prog 38 #[.string key] w fun e w' => e = .returned (.bool b) ∧ Below w.heap.size w w' := by
  by_cases h16 : key.size = 16
  · have hb' : b = true := by rw [← hb]; exact .inl h16
    subst hb'
    have h1 : ((key.size : Int) == 16) = true := by rw [h16]; rfl
    clear hb h16
    go_enter Try.func38, Try.ntmps38
    go_wp2
    go_ret
    exact ⟨rfl, Below.refl _ _⟩
  · have h1 : ((key.size : Int) == 16) = false := beq_eq_false_iff_ne.2 (by omega)
    have h2 : ((key.size : Int) == 32) = b := by
      cases b with
      | true => have : key.size = 16 ∨ key.size = 32 := by rw [hb]
                exact beq_iff_eq.2 (by omega)
      | false => exact beq_eq_false_iff_ne.2 (fun e => by
                  have : key.size = 16 ∨ key.size = 32 := .inr (by omega)
                  rw [hb] at this; cases this)
    clear hb h16
    go_enter Try.func38, Try.ntmps38
    go_wp2
    go_ret
    exact ⟨rfl, Below.refl _ _⟩
theorem rmay_any (key nonce : ByteArray) (b : Bool) (hb : ((key.size = 16 ∨ key.size = 32) ∧ nonce.size = 12) = (b = true)) (w : World) : Calls Try.prog 12 #[.string key, .string nonce] w fun e w' => e = .returned (.bool b) ∧ Below w.heap.size w w' := by
  by_cases hr : key.size = 16 ∨ key.size = 32
  · have C0 : Hid (∀ w, Calls Try.prog 38 #[.string key] w fun e w' => e = .returned (.bool true) ∧ Below w.heap.size w w') := by exact rkey_any key true (by simp [hr])
    have h2 : ((nonce.size : Int) == 12) = b := by
      cases b with
      | true => have : (key.size = 16 ∨ key.size = 32) ∧ nonce.size = 12 := by rw [hb]
                exact beq_iff_eq.2 (by omega)
      | false => exact beq_eq_false_iff_ne.2 (fun e => by
                  have : (key.size = 16 ∨ key.size = 32) ∧ nonce.size = 12 := ⟨hr, by omega⟩
                  rw [hb] at this; cases this)
    clear hb hr
    go_enter Try.func12, Try.ntmps12
    go_wp2_with (go_at_call 38; refine (C0.out _).mono ?_; rintro e w1 ⟨rfl, hk1⟩)
    go_ret
    exact ⟨rfl, hk1⟩
  · have C0 : Hid (∀ w, Calls Try.prog 38 #[.string key] w fun e w' => e = .returned (.bool false) ∧ Below w.heap.size w w') := by exact rkey_any key false (by simp [hr])
    have h2 : b = false := by
      cases b with
      | true => have : (key.size = 16 ∨ key.size = 32) ∧ nonce.size = 12 := by rw [hb]
                exact absurd this.1 hr
      | false => rfl
    subst h2
    clear hb hr
    go_enter Try.func12, Try.ntmps12
    go_wp2_with (go_at_call 38; refine (C0.out _).mono ?_; rintro e w1 ⟨rfl, hk1⟩)
    go_ret
    exact ⟨rfl, hk1⟩
end Rw
end Go.Proofs.Ytieooonobjkglaa
namespace Go.Proofs.Ytieooonobjkglaa
open Go Go.Proofs Go.RowKit Go.Shelf SW
set_option maxRecDepth 20000
set_option maxHeartbeats 8000000
namespace Rw
theorem keepB {w W W' : World} {b : Nat} {cs : Array Value} {T : TypeId} (h : Below w.heap.size w W ∧ Blk W b cs T) (hk : Below W.heap.size W W') : Below w.heap.size w W' ∧ Blk W' b cs T := ⟨Below.callee h.1 hk, h.2.callee hk⟩
theorem ropen_ok (kk : Nat) (hk : kk = 4 ∨ kk = 8) (key nonce head sealed : ByteArray) (n : Nat) (hkey : key.size = 4 * kk) (hn : nonce.size = 12) (hh : head.size ≤ 4096) (hs : sealed.size = n + 16) (hn4 : n ≤ 4096)
    (w : World) (ht : Sx.tag kk key.data.toList nonce.data.toList head.data.toList (sealed.data.toList.take n) = sealed.data.toList.drop n) :
    Calls Try.prog 14 #[.string key, .string nonce, .string head, .string sealed] w fun e w' =>
      e = .returned (.agg #[.string ⟨(Sx.xorL (sealed.data.toList.take n) (Sx.stream kk key.data.toList nonce.data.toList 2 n)).toArray⟩, .bool true]) ∧ Below w.heap.size w w' := by
  have C1 : Hid (∀ w, Calls Try.prog 41 #[.string key, .string nonce, .int .u32 2, .int .i64 (n : Int)] w fun e w' => e = .returned (.string ⟨(Sx.stream kk key.data.toList nonce.data.toList 2 n).toArray⟩) ∧ Below w.heap.size w w') := by
    exact fun w => rstream_any kk hk key nonce hkey hn 2 n (by omega) w
  have hml := Sx.stream_length kk key.data.toList nonce.data.toList 2 n
  generalize Sx.stream kk key.data.toList nonce.data.toList 2 n = sk at C1 hml ⊢
  have hbl : (sealed.extract 0 n).data.toList = sealed.data.toList.take n := ext_upto _ _
  have hel : (sealed.extract n sealed.size).data.toList = sealed.data.toList.drop n := ext_end _ _
  have hbs : (sealed.extract 0 n).size = n := by simp; omega
  have hsl1 : ∀ W, (Instr.slice 9 (.string sealed) none (some (.int .i64 (n : Int))) none).run Try.prog W = .ok (.string (sealed.extract 0 n)) W := fun W => by
    rw [run_slice_string_h (ht := Try.underlying9) (h0 := by omega) (h2 := by omega)]
    rfl
  have hsl2 : ∀ W, (Instr.slice 9 (.string sealed) (some (.int .i64 (n : Int))) none none).run Try.prog W = .ok (.string (sealed.extract n sealed.size)) W := fun W => by
    rw [run_slice_string_l (ht := Try.underlying9) (h0 := by omega) (h1 := by omega)]
    rfl
  rw [← hbl, ← hel] at ht
  have HR : Hid (Sx.xorL (sealed.data.toList.take n) sk = Sx.xorL (sealed.extract 0 n).data.toList sk) := by rw [hbl]; exact rfl
  generalize sealed.extract 0 n = body at hsl1 ht HR hbs
  generalize sealed.extract n sealed.size = tail at hsl2 ht
  have C2 : Hid (∀ w, Calls Try.prog 40 #[.string body, .string ⟨sk.toArray⟩] w fun e w' => e = .returned (.string ⟨(Sx.xorL body.data.toList sk).toArray⟩) ∧ Below w.heap.size w w') := by
    exact fun w => rxor7_any body ⟨sk.toArray⟩ (by rw [ba_len sk]; omega) (by omega) w
  have C3 : Hid (∀ w, Calls Try.prog 39 #[.string key, .string nonce, .string head, .string body] w fun e w' => e = .returned (.string tail) ∧ Below w.heap.size w w') := by
    refine show ∀ w, _ from fun w => ?_
    have := rtag_any kk hk key nonce head body hkey hn (by omega) (by omega) w
    rwa [ht] at this
  have dw : IntKind.i64.wrap ((sealed.size : Int) - 16) = (n : Int) := by rw [IntWalk.i64_in _ (by omega)]; omega
  have dw2 : (sealed.size : Int) - 16 = (n : Int) := by omega
  rw [HR.out]
  generalize (Sx.xorL body.data.toList sk) = xr at C2 ⊢
  clear hbl hel hbs hml hkey hn ht hs HR
  have hB := Blk.new w #[.string ⟨#[]⟩, .bool false] 29
  have hW : Below w.heap.size w (w.alloc (Obj.cells #[.string ⟨#[]⟩, .bool false] 29)) := (Below.refl _ _).alloc (Nat.le_refl _) _
  go_enter Try.func14, Try.ntmps14
  go_wp2_with fail
  generalize w.alloc (Obj.cells #[.string ⟨#[]⟩, .bool false] 29) = W0 at hB hW ⊢
  have hH : Hold W0 w.heap.size 2 29 := Hold.of hB rfl
  clear hB
  go_region_held3 (fun W => Below w.heap.size w W ∧ Hold W w.heap.size 2 29 ∧ W.cell? ⟨w.heap.size, 0, none⟩ = some (cellAt W ⟨w.heap.size, 0, none⟩) ∧ W.cell? ⟨w.heap.size, 1, none⟩ = some (cellAt W ⟨w.heap.size, 1, none⟩) ∧ W.frozen? ⟨w.heap.size, 0, none⟩ = false ∧ W.frozen? ⟨w.heap.size, 1, none⟩ = false)
    (first | assumption | exact held2 hW.drew hH.drew | exact held2_callee (by assumption) hk)
    ((go_at_call 39; refine (C3.out _).mono ?_; rintro e w1 ⟨rfl, hk⟩))
  rename_i hS
  have hH1 := hS.2.1
  have hW1 := hS.1
  clear hS hk hW hH
  go_wp2_with fail
  go_region_held3 (fun W => Below w.heap.size w W ∧ Hold W w.heap.size 2 29 ∧ W.cell? ⟨w.heap.size, 0, none⟩ = some (cellAt W ⟨w.heap.size, 0, none⟩) ∧ W.cell? ⟨w.heap.size, 1, none⟩ = some (cellAt W ⟨w.heap.size, 1, none⟩) ∧ W.frozen? ⟨w.heap.size, 0, none⟩ = false ∧ W.frozen? ⟨w.heap.size, 1, none⟩ = false)
    (first | assumption | exact held2 hW1.drew hH1.drew | exact held2_callee (by assumption) hk | exact held2_set (by assumption) _ _)
    (((first | (go_at_call 41; refine (C1.out _).mono ?_) | (go_at_call 40; refine (C2.out _).mono ?_)); rintro e w3 ⟨rfl, hk⟩))
  rename_i hS
  have hF := hS.2.1.two
  have hW2 := hS.1
  clear hS
  generalize (w3.setCell _ _).setCell _ _ = w4 at hF hW2 ⊢
  go_wp2_with fail
  exact bodyPost_ret (results_cell_row rfl _ _ w.heap.size 29 _ (0, 0) _ rfl hF Try.underlying29 rfl (by kernel_rfl)) rfl ⟨rfl, hW2⟩
theorem ropen_no (kk : Nat) (hk : kk = 4 ∨ kk = 8) (key nonce head sealed : ByteArray) (n : Nat) (hkey : key.size = 4 * kk) (hn : nonce.size = 12) (hh : head.size ≤ 4096) (hs : sealed.size = n + 16) (hn4 : n ≤ 4096)
    (w : World) (ht : Sx.tag kk key.data.toList nonce.data.toList head.data.toList (sealed.data.toList.take n) ≠ sealed.data.toList.drop n) :
    Calls Try.prog 14 #[.string key, .string nonce, .string head, .string sealed] w fun e w' =>
      e = .returned (.agg #[.string ⟨#[]⟩, .bool false]) ∧ Below w.heap.size w w' := by
  have hbl : (sealed.extract 0 n).data.toList = sealed.data.toList.take n := ext_upto _ _
  have hel : (sealed.extract n sealed.size).data.toList = sealed.data.toList.drop n := ext_end _ _
  have hbs : (sealed.extract 0 n).size = n := by simp; omega
  have hsl1 : ∀ W, (Instr.slice 9 (.string sealed) none (some (.int .i64 (n : Int))) none).run Try.prog W = .ok (.string (sealed.extract 0 n)) W := fun W => by
    rw [run_slice_string_h (ht := Try.underlying9) (h0 := by omega) (h2 := by omega)]
    rfl
  have hsl2 : ∀ W, (Instr.slice 9 (.string sealed) (some (.int .i64 (n : Int))) none none).run Try.prog W = .ok (.string (sealed.extract n sealed.size)) W := fun W => by
    rw [run_slice_string_l (ht := Try.underlying9) (h0 := by omega) (h1 := by omega)]
    rfl
  rw [← hbl, ← hel] at ht
  generalize sealed.extract 0 n = body at hsl1 ht hbs
  generalize sealed.extract n sealed.size = tail at hsl2 ht
  have C3 : Hid (∀ w, Calls Try.prog 39 #[.string key, .string nonce, .string head, .string body] w fun e w' => e = .returned (.string ⟨(Sx.tag kk key.data.toList nonce.data.toList head.data.toList body.data.toList).toArray⟩) ∧ Below w.heap.size w w') := by
    exact fun w => rtag_any kk hk key nonce head body hkey hn (by omega) (by omega) w
  generalize Sx.tag kk key.data.toList nonce.data.toList head.data.toList body.data.toList = tg at C3 ht
  have hne : (tg == tail.toList) = false := by
    rw [beq_eq_false_iff_ne, ByteArray.toList_eq]; exact ht
  have dw : IntKind.i64.wrap ((sealed.size : Int) - 16) = (n : Int) := by rw [IntWalk.i64_in _ (by omega)]; omega
  have dw2 : (sealed.size : Int) - 16 = (n : Int) := by omega
  clear hbl hel hbs hkey hn ht hs
  have hB := Blk.new w #[.string ⟨#[]⟩, .bool false] 29
  have hW : Below w.heap.size w (w.alloc (Obj.cells #[.string ⟨#[]⟩, .bool false] 29)) := (Below.refl _ _).alloc (Nat.le_refl _) _
  go_enter Try.func14, Try.ntmps14
  go_wp2_with fail
  generalize w.alloc (Obj.cells #[.string ⟨#[]⟩, .bool false] 29) = W0 at hB hW ⊢
  have hH : Hold W0 w.heap.size 2 29 := Hold.of hB rfl
  clear hB
  go_region_held3 (fun W => Below w.heap.size w W ∧ Hold W w.heap.size 2 29 ∧ W.cell? ⟨w.heap.size, 0, none⟩ = some (cellAt W ⟨w.heap.size, 0, none⟩) ∧ W.cell? ⟨w.heap.size, 1, none⟩ = some (cellAt W ⟨w.heap.size, 1, none⟩) ∧ W.frozen? ⟨w.heap.size, 0, none⟩ = false ∧ W.frozen? ⟨w.heap.size, 1, none⟩ = false)
    (first | assumption | exact held2 hW.drew hH.drew | exact held2_callee (by assumption) hk)
    ((go_at_call 39; refine (C3.out _).mono ?_; rintro e w1 ⟨rfl, hk⟩))
  have hS : Held2 w w1 w.heap.size 29 := by assumption
  have hS2 := held2_set hS (.string ⟨#[]⟩) (.bool false)
  go_wp2_with fail
  exact bodyPost_ret (results_cell_row rfl _ _ w.heap.size 29 _ (0, 0) _ rfl hS2.2.1.two Try.underlying29 rfl (by kernel_rfl)) rfl ⟨rfl, hS2.1⟩
end Rw
end Go.Proofs.Ytieooonobjkglaa
