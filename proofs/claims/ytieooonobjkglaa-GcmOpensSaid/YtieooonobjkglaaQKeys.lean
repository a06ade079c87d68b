/- The contract of AES's round keys, of a key of 16 bytes. -/
import Derived.Test.YtieooonobjkglaaQAes
import Derived.Deep.RegionHeld3
import Derived.Test.YtieooonobjkglaaQOwn
import Derived.Test.YtieooonobjkglaaQPure
namespace Go.Proofs.Ytieooonobjkglaa
open Go Go.Proofs Go.RowKit SW
attribute [local go_sem] U8_xor U8_fold
set_option maxRecDepth 20000
set_option maxHeartbeats 8000000
namespace K4

theorem info8 : (Try.prog.info? 5).map (fun i => (i.zero, i.size, i.bytes)) = some (some (.int .u8 0), 1, 1) := by kernel_rfl
theorem infoS : (Try.prog.info? 9).map (fun i => (i.zero, i.size, i.bytes)) = some (some (.string ⟨#[]⟩), 1, 16) := by kernel_rfl
theorem keys (s : ByteArray) (hs : s.size = 16) (w : World) :
    Calls Try.prog 48 #[.string s] w fun e w' => ∃ g cap, e = .returned (.tuple #[.slice (some ⟨g, 0, none⟩) 11 cap, .int .i64 0]) ∧ w.heap.size ≤ g ∧ 11 ≤ cap ∧
      (∀ j, j < 11 → w'.cell? ⟨g, j, none⟩ = some (.string ⟨(Sx.keyAt 4 s.data.toList j).toArray⟩)) ∧ Below w.heap.size w w' := by
  have hmx : Try.prog.toTables.follows .mixedOrders = true := by kernel_rfl
  obtain ⟨i8, e8, z8, s8, b8⟩ := info_parts info8
  obtain ⟨iS, eS, zS, sS, bS⟩ := info_parts infoS
  have hz8 : ∀ w, (Go.sizeOf 5).run Try.prog w = .ok 1 w := fun w => by simp [Go.sizeOf, typeInfo, e8, s8]
  have hconv := run_bytes_of_string w 9 32 5 s Try.underlying9 Try.underlying32 Try.underlying5
  have hO := Own.of_bytes (base := w.heap.size) s w 5 (grownCap w s.size 0 5) (grownCap_ge _ _ _ _) (Nat.le_refl _)
  have hW := (Below.refl w.heap.size w).drew.alloc (Nat.le_refl _) (Obj.cells (bytesRow s (grownCap w s.size 0 5)) 5 ((bytesRow s (grownCap w s.size 0 5)).size, (bytesRow s (grownCap w s.size 0 5)).size + 1))
  generalize hW0 : w.drew.alloc (Obj.cells (bytesRow s (grownCap w s.size 0 5)) 5 ((bytesRow s (grownCap w s.size 0 5)).size, (bytesRow s (grownCap w s.size 0 5)).size + 1)) = W0 at hconv hO hW
  clear hW0
  have hlen : s.data.toList.length = 4 * 4 := by simpa using hs
  have HLEN := Lib.hid hlen
  rw [hs] at hconv hO
  have h16 : ((s.size : Int) != 16) = false := by rw [hs]; rfl
  have h32 : ((s.size : Int) != 32) = true := by rw [hs]; rfl
  have hs' : (s.size : Int) = 16 := by omega
  rw [hs'] at h16 h32
  have HS := Lib.hid hs
  clear hlen hs
  go_enter Try.func48, Try.ntmps48
  go_wp2
  generalize grownCap w 16 0 5 = cp0 at hconv hO ⊢
  go_loopw [5, 6] (fun v iv wr => ∃ i : Nat, 4 ≤ i ∧ i ≤ 44 ∧ iv = .int .i64 i ∧ Own wr w.heap.size 1 v (4 * i) (bv (Sx.kall 4 s.data.toList i)).toList ∧ Below w.heap.size w wr)
    (fun _ iv _ => 44 - (intOf iv).toNat)
  case atStart =>
    refine ⟨4, by omega, by omega, rfl, ?_, hW⟩
    rw [Sx.kall_first _ _ _ (by omega)]
    exact hO
  case round =>
    clear hW hO hconv h16 h32 hs'
    obtain ⟨i, hi1, hi2, rfl, hO, hW⟩ := hrel
    by_cases hlt : i < 44
    · have hlti : (i : Int) < 44 := by omega
      obtain ⟨g, cap, rfl, hgb, hgl, hcap, hcells⟩ := hO.form (by omega)
      have hal := Sx.kall_length 4 s.data.toList HLEN.out i hi1
      have hsucc := Sx.kall_succ 4 s.data.toList i hi1
      generalize Sx.kall 4 s.data.toList i = all at hO hcells hal hsucc
      have HSUC := Lib.hid hsucc
      clear hsucc
      obtain ⟨o, ho⟩ : ∃ o : Nat, o + 4 = 4 * i := ⟨4 * i - 4, by omega⟩
      have c0 := hcells (o + 0) _ (bvl_get all (o + 0) (by omega))
      have c1 := hcells (o + 1) _ (bvl_get all (o + 1) (by omega))
      have c2 := hcells (o + 2) _ (bvl_get all (o + 2) (by omega))
      have c3 := hcells (o + 3) _ (bvl_get all (o + 3) (by omega))
      rw [Nat.add_zero] at c0
      generalize hx0 : all.getD o 0 = x0 at c0
      generalize hx1 : all.getD (o + 1) 0 = x1 at c1
      generalize hx2 : all.getD (o + 2) 0 = x2 at c2
      generalize hx3 : all.getD (o + 3) 0 = x3 at c3
      have HY : Hid (Sx.kwords 4 i all = Sx.kword 4 i x0 x1 x2 x3) := by
        unfold Sx.kwords
        rw [show 4 * i - 4 = o by omega, hx0, hx1, hx2, hx3]
        exact rfl
      clear hx0 hx1 hx2 hx3
      have HAL := Lib.hid hal
      clear hal
      have hsl : ∀ W, (Instr.slice 32 (.slice (some ⟨g, 0, none⟩) (4 * i) cap) (some (.int .i64 (4 * (i : Int) - 4))) (some (.int .i64 (4 * (i : Int)))) none).run Try.prog W = .ok (.slice (some ⟨g, o, none⟩) 4 (cap - o)) W := fun W => by
        rw [slice_win 32 5 Try.underlying32 hz8 g 0 (4 * i) cap o (4 * i) _ _ (by omega) (by omega) (by omega) (by omega) W, Nat.zero_add, show 4 * i - o = 4 by omega]
      have har : ∀ W, (Instr.arrayAt 143 (.slice (some ⟨g, o, none⟩) 4 (cap - o))).run Try.prog W = .ok (.pointer (some ⟨g, o, none⟩)) W := fun W => run_arrayAt (w := W) 143 5 4 _ 4 _ Try.underlying143 (by omega)
      have HO := Lib.hid ho
      clear ho
      by_cases hm : i % 4 = 0
      · obtain ⟨q, hq⟩ : ∃ q : Nat, q = i / 4 - 1 := ⟨_, rfl⟩
        have q0 : (i : Int) / 4 ≥ 1 ∧ (i : Int) / 4 ≤ 15 := by omega
        have q1 : IntKind.i64.wrap ((i : Int) / 4) = (i : Int) / 4 := IntWalk.i64_in _ (by omega)
        have q2 : IntKind.i64.wrap ((i : Int) / 4 - 1) = (q : Int) := by rw [IntWalk.i64_in _ (by omega)]; omega
        have hq9 : q ≤ 9223372036854775807 := by omega
        have HQ := Lib.hid hq
        clear hq q0
        go_wp2_with (refine wp_tail 19 hmx (by kernel_rfl) ?_; simp only [List.take_succ_cons, List.take_zero, List.drop_succ_cons, List.drop_zero]; (repeat still_step); still_call ((box_any _ _).mono fun _ _ h => ⟨h.1, h.2.symm⟩); (repeat still_step); still_call ((pow_any 2 q _ hq9).mono fun _ _ h => ⟨h.1, h.2.symm⟩); (repeat still_step); still_call ((box_any _ _).mono fun _ _ h => ⟨h.1, h.2.symm⟩); (repeat still_step); still_call ((box_any _ _).mono fun _ _ h => ⟨h.1, h.2.symm⟩); (repeat still_step); still_call ((box_any _ _).mono fun _ _ h => ⟨h.1, h.2.symm⟩); (repeat still_step); refine wpStill_nil ?_)
        have hO1 : Own (wr.alloc (Obj.cells #[Value.int IntKind.u8 (U8 (Sx.box x1 ^^^ Sx.pow 2 q)), Value.int IntKind.u8 (U8 (Sx.box x2)), Value.int IntKind.u8 (U8 (Sx.box x3)), Value.int IntKind.u8 (U8 (Sx.box x0))] 143)).drew w.heap.size 1 (.slice (some ⟨g, 0, none⟩) (4 * i) cap) (4 * i) (bv all).toList := (hO.alloc _)
        have hB1 : Blk (wr.alloc (Obj.cells #[Value.int IntKind.u8 (U8 (Sx.box x1 ^^^ Sx.pow 2 q)), Value.int IntKind.u8 (U8 (Sx.box x2)), Value.int IntKind.u8 (U8 (Sx.box x3)), Value.int IntKind.u8 (U8 (Sx.box x0))] 143)).drew wr.heap.size (bv [Sx.box x1 ^^^ Sx.pow 2 q, Sx.box x2, Sx.box x3, Sx.box x0]) 143 := Blk.new wr _ _
        have hW1 : Below w.heap.size w (wr.alloc (Obj.cells #[Value.int IntKind.u8 (U8 (Sx.box x1 ^^^ Sx.pow 2 q)), Value.int IntKind.u8 (U8 (Sx.box x2)), Value.int IntKind.u8 (U8 (Sx.box x3)), Value.int IntKind.u8 (U8 (Sx.box x0))] 143)).drew := (hW.alloc hW.size _).drew
        generalize (wr.alloc (Obj.cells #[Value.int IntKind.u8 (U8 (Sx.box x1 ^^^ Sx.pow 2 q)), Value.int IntKind.u8 (U8 (Sx.box x2)), Value.int IntKind.u8 (U8 (Sx.box x3)), Value.int IntKind.u8 (U8 (Sx.box x0))] 143)).drew = W1 at hO1 hB1 hW1 ⊢
        have HY' : Hid (Sx.kwords 4 i all = [Sx.box x1 ^^^ Sx.pow 2 q, Sx.box x2, Sx.box x3, Sx.box x0]) := by
          rw [HY.out, Sx.kword, if_pos hm, ← HQ.out]; exact rfl
        replace HY := HY'
        clear HY'
        obtain ⟨ys, hys⟩ : ∃ ys : List UInt8, ys = [Sx.box x1 ^^^ Sx.pow 2 q, Sx.box x2, Sx.box x3, Sx.box x0] := ⟨_, rfl⟩
        rw [← hys] at hB1 HY
        have HYL : Hid (ys.length = 4) := by rw [hys]; exact rfl
        clear hys c0 c1 c2 c3 hO hcells hsl har
        clear q1 q2 hm
        
        have hgb4 : g ≠ wr.heap.size := by omega
        have hW1b : wr.heap.size < W1.heap.size := hB1.lt
        generalize wr.heap.size = b4 at hB1 hgb4 hW1b ⊢
        go_loopw [5, 9, 85] (fun v9 _ rv wi => ∃ r : Nat, r ≤ 4 ∧ rv = .int .i64 r ∧ Own wi w.heap.size 1 v9 (4 * i + r) (bv (all ++ Sx.kadd 4 i all ys r)).toList ∧ Blk wi b4 (bv ys) 143 ∧ Below w.heap.size w wi ∧ (∀ k, v9.ownBlock = some k → k ≠ b4))
          (fun _ _ rv _ => 4 - (intOf rv).toNat)
        case atStart =>
          refine ⟨0, by omega, rfl, ?_, hB1, hW1, ?_⟩
          · rw [show Sx.kadd 4 i all ys 0 = [] from rfl, List.append_nil]
            exact hO1
          · intro k hk
            have : g = k := by simpa [Value.ownBlock] using hk
            omega
        case round =>
          clear hO1 hB1 hW1 hW1b hgb4
          obtain ⟨r, hr, rfl, hO9, hB9, hW9, hne9⟩ := hrel
          by_cases hlr : r < 4
          · obtain ⟨g9, cap9, rfl, hgb9, hgl9, hcap9, hcells9⟩ := hO9.form (by omega)
            obtain ⟨o2, ho2⟩ : ∃ o2 : Nat, o2 = 4 * (i - 4) + r := ⟨_, rfl⟩
            have ho3 : o2 < 4 * i + r := by omega
            have ho4 : (o2 : Int) < 4 * (i : Int) + (r : Int) := by omega
            have d1 : IntKind.i64.wrap ((i : Int) - 4) = (i : Int) - 4 := IntWalk.i64_in _ (by omega)
            have d2 : IntKind.i64.wrap (4 * ((i : Int) - 4)) = 4 * ((i : Int) - 4) := IntWalk.i64_in _ (by omega)
            have d3 : IntKind.i64.wrap (4 * ((i : Int) - 4) + (r : Int)) = (o2 : Int) := by rw [IntWalk.i64_in _ (by omega)]; omega
            have hget := bvl_get (all ++ Sx.kadd 4 i all ys r) o2 (by rw [List.length_append, HAL.out, Sx.kadd_length]; exact ho3)
            rw [show (all ++ Sx.kadd 4 i all ys r).getD o2 0 = all.getD o2 0 from getD_app _ _ _ _ (by rw [HAL.out]; omega)] at hget
            have hbg := bv_get ys r (by rw [HYL.out]; omega)
            have hks := Sx.kadd_succ 4 i all ys r
            rw [← ho2] at hks
            generalize hza : all.getD o2 0 = za at hget hks
            rw [show ys.getD r 0 = ys[r]'(by rw [HYL.out]; omega) by simp [HYL.out, hlr]] at hks
            generalize hzb : ys[r]'(by rw [HYL.out]; omega) = zb at hbg hks
            have HGET := Lib.hid hget
            have HBG := Lib.hid hbg
            have HKS := Lib.hid hks
            have HO2 := Lib.hid ho2
            clear hks ho2 hza hzb hcells9 hget hbg
            have hb4l := hB9.lt
            go_wp2_with fail
            go_region_held3 (fun W => W.cell? ⟨g9, o2, none⟩ = some (.int .u8 (U8 za)) ∧ W.cell? ⟨b4, r, none⟩ = some (.int .u8 (U8 zb)))
              (first
                | exact ⟨hO9.drew.cells _ _ HGET.out, hB9.drew.cell HBG.out⟩
                | exact ⟨(hO9.drew.alloc _).cells _ _ HGET.out, (hB9.drew.alloc _).cell HBG.out⟩
                | exact ⟨hkp _ rfl _ _ HGET.out, ((hB9.drew.alloc _).grown hg' (fun e => hne9 _ rfl (Option.some.inj e))).cell HBG.out⟩
                | assumption)
              ((refine own_step rfl _ _ 32 rfl 5 i8 (.int .u8 0) 1 1 Try.underlying32 e8 z8 s8 b8 rfl (by decide) w.heap.size (4 * i + r) (.slice (some ⟨g9, 0, none⟩) (4 * i + r) cap9) _ rfl (hO9.drew.alloc _) (by have := hW9.size; simp; omega) ⟨wr.heap.size, 0, none⟩ 1 1 [.int .u8 (U8 (za ^^^ zb))] rfl rfl (one_new _ _ _) (by simp [Value.oneCell']) (by unfold maxLen; omega) (by omega) ?_; intro v' w1 hO' hg' hk' hkp))
            go_wp2_with fail
            go_roundw
            case rel =>
              refine ⟨r + 1, by omega, by go_num, ?_, ?_, ?_, ?_⟩
              · rw [HKS.out, ← List.append_assoc]
                simpa [bv, Nat.add_assoc] using hO'
              · exact (hB9.drew.alloc _).grown hg' (fun e => hne9 _ rfl (Option.some.inj e))
              · exact ((hW9.drew).alloc (by have := hW9.size; exact this) _).grown hg' (by have := hW9.size; simp; omega) (fun k hk => (hO9.blk hk).1)
              · intro k hk
                rcases hk' k hk with h | h
                · exact hne9 k h
                · simp at h; omega
            case measure => simp [intOf]; omega
          · obtain rfl : r = 4 := by omega
            go_wp2
            go_roundw
            case rel =>
              refine ⟨i + 1, by omega, by omega, by go_num, ?_, hW9⟩
              rw [HSUC.out, HY.out, show 4 * (i + 1) = 4 * i + 4 by omega]
              exact hO9
            case measure => simp [intOf]; omega
      · have hm' : ((i : Int) % 4 == 0) = false := by simp; omega
        go_wp2_with fail
        have hO1 : Own (wr.alloc (Obj.cells #[Value.int IntKind.u8 (U8 x0), Value.int IntKind.u8 (U8 x1), Value.int IntKind.u8 (U8 x2), Value.int IntKind.u8 (U8 x3)] 143)) w.heap.size 1 (.slice (some ⟨g, 0, none⟩) (4 * i) cap) (4 * i) (bv all).toList := (hO.alloc _)
        have hB1 : Blk (wr.alloc (Obj.cells #[Value.int IntKind.u8 (U8 x0), Value.int IntKind.u8 (U8 x1), Value.int IntKind.u8 (U8 x2), Value.int IntKind.u8 (U8 x3)] 143)) wr.heap.size (bv [x0, x1, x2, x3]) 143 := Blk.new wr _ _
        have hW1 : Below w.heap.size w (wr.alloc (Obj.cells #[Value.int IntKind.u8 (U8 x0), Value.int IntKind.u8 (U8 x1), Value.int IntKind.u8 (U8 x2), Value.int IntKind.u8 (U8 x3)] 143)) := (hW.alloc hW.size _)
        generalize (wr.alloc (Obj.cells #[Value.int IntKind.u8 (U8 x0), Value.int IntKind.u8 (U8 x1), Value.int IntKind.u8 (U8 x2), Value.int IntKind.u8 (U8 x3)] 143)) = W1 at hO1 hB1 hW1 ⊢
        have HY' : Hid (Sx.kwords 4 i all = [x0, x1, x2, x3]) := by
          rw [HY.out, Sx.kword, if_neg hm, if_neg (by omega)]; exact rfl
        replace HY := HY'
        clear HY'
        obtain ⟨ys, hys⟩ : ∃ ys : List UInt8, ys = [x0, x1, x2, x3] := ⟨_, rfl⟩
        rw [← hys] at hB1 HY
        have HYL : Hid (ys.length = 4) := by rw [hys]; exact rfl
        clear hys c0 c1 c2 c3 hO hcells hsl har hm
        clear hm'
        
        have hgb4 : g ≠ wr.heap.size := by omega
        have hW1b : wr.heap.size < W1.heap.size := hB1.lt
        generalize wr.heap.size = b4 at hB1 hgb4 hW1b ⊢
        go_loopw [5, 9, 85] (fun v9 _ rv wi => ∃ r : Nat, r ≤ 4 ∧ rv = .int .i64 r ∧ Own wi w.heap.size 1 v9 (4 * i + r) (bv (all ++ Sx.kadd 4 i all ys r)).toList ∧ Blk wi b4 (bv ys) 143 ∧ Below w.heap.size w wi ∧ (∀ k, v9.ownBlock = some k → k ≠ b4))
          (fun _ _ rv _ => 4 - (intOf rv).toNat)
        case atStart =>
          refine ⟨0, by omega, rfl, ?_, hB1, hW1, ?_⟩
          · rw [show Sx.kadd 4 i all ys 0 = [] from rfl, List.append_nil]
            exact hO1
          · intro k hk
            have : g = k := by simpa [Value.ownBlock] using hk
            omega
        case round =>
          clear hO1 hB1 hW1 hW1b hgb4
          obtain ⟨r, hr, rfl, hO9, hB9, hW9, hne9⟩ := hrel
          by_cases hlr : r < 4
          · obtain ⟨g9, cap9, rfl, hgb9, hgl9, hcap9, hcells9⟩ := hO9.form (by omega)
            obtain ⟨o2, ho2⟩ : ∃ o2 : Nat, o2 = 4 * (i - 4) + r := ⟨_, rfl⟩
            have ho3 : o2 < 4 * i + r := by omega
            have ho4 : (o2 : Int) < 4 * (i : Int) + (r : Int) := by omega
            have d1 : IntKind.i64.wrap ((i : Int) - 4) = (i : Int) - 4 := IntWalk.i64_in _ (by omega)
            have d2 : IntKind.i64.wrap (4 * ((i : Int) - 4)) = 4 * ((i : Int) - 4) := IntWalk.i64_in _ (by omega)
            have d3 : IntKind.i64.wrap (4 * ((i : Int) - 4) + (r : Int)) = (o2 : Int) := by rw [IntWalk.i64_in _ (by omega)]; omega
            have hget := bvl_get (all ++ Sx.kadd 4 i all ys r) o2 (by rw [List.length_append, HAL.out, Sx.kadd_length]; exact ho3)
            rw [show (all ++ Sx.kadd 4 i all ys r).getD o2 0 = all.getD o2 0 from getD_app _ _ _ _ (by rw [HAL.out]; omega)] at hget
            have hbg := bv_get ys r (by rw [HYL.out]; omega)
            have hks := Sx.kadd_succ 4 i all ys r
            rw [← ho2] at hks
            generalize hza : all.getD o2 0 = za at hget hks
            rw [show ys.getD r 0 = ys[r]'(by rw [HYL.out]; omega) by simp [HYL.out, hlr]] at hks
            generalize hzb : ys[r]'(by rw [HYL.out]; omega) = zb at hbg hks
            have HGET := Lib.hid hget
            have HBG := Lib.hid hbg
            have HKS := Lib.hid hks
            have HO2 := Lib.hid ho2
            clear hks ho2 hza hzb hcells9 hget hbg
            have hb4l := hB9.lt
            go_wp2_with fail
            go_region_held3 (fun W => W.cell? ⟨g9, o2, none⟩ = some (.int .u8 (U8 za)) ∧ W.cell? ⟨b4, r, none⟩ = some (.int .u8 (U8 zb)))
              (first
                | exact ⟨hO9.drew.cells _ _ HGET.out, hB9.drew.cell HBG.out⟩
                | exact ⟨(hO9.drew.alloc _).cells _ _ HGET.out, (hB9.drew.alloc _).cell HBG.out⟩
                | exact ⟨hkp _ rfl _ _ HGET.out, ((hB9.drew.alloc _).grown hg' (fun e => hne9 _ rfl (Option.some.inj e))).cell HBG.out⟩
                | assumption)
              ((refine own_step rfl _ _ 32 rfl 5 i8 (.int .u8 0) 1 1 Try.underlying32 e8 z8 s8 b8 rfl (by decide) w.heap.size (4 * i + r) (.slice (some ⟨g9, 0, none⟩) (4 * i + r) cap9) _ rfl (hO9.drew.alloc _) (by have := hW9.size; simp; omega) ⟨wr.heap.size, 0, none⟩ 1 1 [.int .u8 (U8 (za ^^^ zb))] rfl rfl (one_new _ _ _) (by simp [Value.oneCell']) (by unfold maxLen; omega) (by omega) ?_; intro v' w1 hO' hg' hk' hkp))
            go_wp2_with fail
            go_roundw
            case rel =>
              refine ⟨r + 1, by omega, by go_num, ?_, ?_, ?_, ?_⟩
              · rw [HKS.out, ← List.append_assoc]
                simpa [bv, Nat.add_assoc] using hO'
              · exact (hB9.drew.alloc _).grown hg' (fun e => hne9 _ rfl (Option.some.inj e))
              · exact ((hW9.drew).alloc (by have := hW9.size; exact this) _).grown hg' (by have := hW9.size; simp; omega) (fun k hk => (hO9.blk hk).1)
              · intro k hk
                rcases hk' k hk with h | h
                · exact hne9 k h
                · simp at h; omega
            case measure => simp [intOf]; omega
          · obtain rfl : r = 4 := by omega
            go_wp2
            go_roundw
            case rel =>
              refine ⟨i + 1, by omega, by omega, by go_num, ?_, hW9⟩
              rw [HSUC.out, HY.out, show 4 * (i + 1) = 4 * i + 4 by omega]
              exact hO9
            case measure => simp [intOf]; omega
    · obtain rfl : i = 44 := by omega
      go_wp2
      have hO : Own wr w.heap.size 1 _ 176 (bv (Sx.kall 4 s.data.toList 44)).toList := hO
      rw [show ((44 : Nat) : Int) = 44 from rfl]
      have hnil := Own.nil wr w.heap.size 1
      obtain ⟨kf, hkf⟩ : ∃ kf : Nat → ByteArray, kf = fun j => ⟨(Sx.keyAt 4 s.data.toList j).toArray⟩ := ⟨_, rfl⟩
      have HKF := Lib.hid hkf
      clear hkf
      have hOut : Own wr w.heap.size 1 (.slice none 0 0) 0 ((List.range 0).map fun j => Value.string (kf j)) := hnil
      clear hnil
      obtain ⟨g, cap, rfl, hgb, hgl, hcap, hcells⟩ := hO.form (by omega)
      generalize hall : Sx.kall 4 s.data.toList 44 = all at hO hcells
      have hal : all.length = 176 := by rw [← hall, Sx.kall_length 4 _ HLEN.out _ (by omega)]
      have HALL := Lib.hid hall
      have HAL := Lib.hid hal
      clear hall hal
      obtain ⟨outs, hos⟩ : ∃ outs : Nat → List Value, outs = fun j => (List.range j).map fun j => Value.string (kf j) := ⟨_, rfl⟩
      have HOS := Lib.hid hos
      have hOut : Own wr w.heap.size 1 (.slice none 0 0) 0 (outs 0) := by rw [hos]; exact hOut
      clear hos
      go_loopw [10, 11] (fun v10 iv wi => ∃ j : Nat, j ≤ 11 ∧ iv = .int .i64 (16 * (j : Int)) ∧ Own wi w.heap.size 1 v10 j (outs j) ∧ Own wi w.heap.size 1 (.slice (some ⟨g, 0, none⟩) 176 cap) 176 (bv all).toList ∧ Below w.heap.size w wi ∧ (∀ k, v10.ownBlock = some k → k ≠ g))
        (fun _ iv _ => 176 - (intOf iv).toNat)
      case atStart => exact ⟨0, by omega, rfl, hOut, hO, hW, fun k hk => by simp [Value.ownBlock] at hk⟩
      case round =>
        clear hO hW hOut hcells
        obtain ⟨j, hj, rfl, hOut, hO, hW, hne⟩ := hrel
        by_cases hlt : j < 11
        · have hlt' : 16 * (j : Int) < 176 := by omega
          have hkl : (Sx.keyAt 4 s.data.toList j).length = 16 := Sx.keyAt_length 4 _ HLEN.out j (by omega)
          have hkc : ∀ q (hq : q < (Sx.keyAt 4 s.data.toList j).length), wr.cell? ⟨g, 16 * j + q, none⟩ = some (.int .u8 (U8 ((Sx.keyAt 4 s.data.toList j)[q]))) := fun q hq => by
            refine hO.cells _ _ ?_
            rw [bvl_get _ _ (by rw [HAL.out]; omega), ← HALL.out]
            simp only [Sx.keyAt, List.getElem_take, List.getElem_drop]
            rw [List.getD_eq_getElem?_getD, List.getElem?_eq_getElem (by rw [HALL.out, HAL.out]; omega)]
            rfl
          have hcv := bytes_back_at (P := Try.prog) 32 9 5 Try.underlying32 Try.underlying5 Try.underlying9 hkc 16 (cap - 16 * j) hkl
          have hkj : kf j = ⟨(Sx.keyAt 4 s.data.toList j).toArray⟩ := by rw [HKF.out]
          have hos1 : outs (j + 1) = outs j ++ [.string (kf j)] := by rw [HOS.out]; simp [List.range_succ]
          rw [← hkj] at hcv
          generalize kf j = kj at hcv hos1
          have HOS1 := Lib.hid hos1
          clear hkl hkc hos1
          have hsl : ∀ W, (Instr.slice 32 (.slice (some ⟨g, 0, none⟩) 176 cap) (some (.int .i64 (16 * (j : Int)))) (some (.int .i64 (16 * (j : Int) + 16))) none).run Try.prog W = .ok (.slice (some ⟨g, 16 * j, none⟩) 16 (cap - 16 * j)) W := fun W => by
            rw [slice_win 32 5 Try.underlying32 hz8 g 0 176 cap (16 * j) (16 * j + 16) _ _ (by omega) (by omega) (by omega) (by omega) W, Nat.zero_add, show 16 * j + 16 - 16 * j = 16 by omega]
          have hw : IntKind.i64.wrap (16 * (j : Int) + 16) = 16 * (j : Int) + 16 := IntWalk.i64_in _ (by omega)
          go_wp2_with (refine own_append rfl _ _ 88 rfl 9 iS (.string ⟨#[]⟩) 1 16 Try.underlying88 eS zS sS bS rfl (by decide) w.heap.size j _ _ rfl (hOut.alloc _) (by have := hW.size; simp; omega) ⟨wr.heap.size, 0, none⟩ 1 1 [.string kj] rfl rfl (one_new _ _ _) (by simp [Value.oneCell']) (by unfold maxLen; omega) (by omega) ?_; intro v' w1 hO' hg' hk' hkp)
          go_roundw
          case rel =>
            refine ⟨j + 1, by omega, by go_num, ?_, ?_, ?_, ?_⟩
            · rw [HOS1.out]
              exact hO'
            · exact (hO.alloc _).kept hg' (fun k hk e => hne k e (by
                have : g = k := by simpa [Value.ownBlock] using hk
                exact this.symm))
            · exact (hW.alloc (by have := hW.size; exact this) _).grown hg' (by have := hW.size; simp; omega) (fun k hk => (hOut.blk hk).1)
            · intro k hk
              rcases hk' k hk with h | h
              · exact hne k h
              · have hgg : g < wr.heap.size := (hO.blk rfl).2
                simp at h; omega
          case measure => simp [intOf]; omega
        · obtain rfl : j = 11 := by omega
          obtain ⟨g2, cap2, rfl, hgb2, hgl2, hcap2, hcells2⟩ := hOut.form (by omega)
          go_wp2_with fail
          go_ret2
          refine ⟨g2, cap2, rfl, hgb2, hcap2, fun j hj => ?_, hW⟩
          refine hcells2 j _ ?_
          rw [HOS.out, HKF.out]
          simp [hj]
      
end K4
end Go.Proofs.Ytieooonobjkglaa
namespace Go.Proofs.Ytieooonobjkglaa
open Go Go.Proofs Go.RowKit SW
attribute [local go_sem] U8_xor U8_fold
set_option maxRecDepth 20000
set_option maxHeartbeats 8000000
namespace K8

theorem info8 : (Try.prog.info? 5).map (fun i => (i.zero, i.size, i.bytes)) = some (some (.int .u8 0), 1, 1) := by kernel_rfl
theorem infoS : (Try.prog.info? 9).map (fun i => (i.zero, i.size, i.bytes)) = some (some (.string ⟨#[]⟩), 1, 16) := by kernel_rfl
theorem keys (s : ByteArray) (hs : s.size = 32) (w : World) :
    Calls Try.prog 48 #[.string s] w fun e w' => ∃ g cap, e = .returned (.tuple #[.slice (some ⟨g, 0, none⟩) 15 cap, .int .i64 0]) ∧ w.heap.size ≤ g ∧ 15 ≤ cap ∧
      (∀ j, j < 15 → w'.cell? ⟨g, j, none⟩ = some (.string ⟨(Sx.keyAt 8 s.data.toList j).toArray⟩)) ∧ Below w.heap.size w w' := by
  have hmx : Try.prog.toTables.follows .mixedOrders = true := by kernel_rfl
  obtain ⟨i8, e8, z8, s8, b8⟩ := info_parts info8
  obtain ⟨iS, eS, zS, sS, bS⟩ := info_parts infoS
  have hz8 : ∀ w, (Go.sizeOf 5).run Try.prog w = .ok 1 w := fun w => by simp [Go.sizeOf, typeInfo, e8, s8]
  have hconv := run_bytes_of_string w 9 32 5 s Try.underlying9 Try.underlying32 Try.underlying5
  have hO := Own.of_bytes (base := w.heap.size) s w 5 (grownCap w s.size 0 5) (grownCap_ge _ _ _ _) (Nat.le_refl _)
  have hW := (Below.refl w.heap.size w).drew.alloc (Nat.le_refl _) (Obj.cells (bytesRow s (grownCap w s.size 0 5)) 5 ((bytesRow s (grownCap w s.size 0 5)).size, (bytesRow s (grownCap w s.size 0 5)).size + 1))
  generalize hW0 : w.drew.alloc (Obj.cells (bytesRow s (grownCap w s.size 0 5)) 5 ((bytesRow s (grownCap w s.size 0 5)).size, (bytesRow s (grownCap w s.size 0 5)).size + 1)) = W0 at hconv hO hW
  clear hW0
  have hlen : s.data.toList.length = 4 * 8 := by simpa using hs
  have HLEN := Lib.hid hlen
  rw [hs] at hconv hO
  have h16 : ((s.size : Int) != 16) = true := by rw [hs]; rfl
  have h32 : ((s.size : Int) != 32) = false := by rw [hs]; rfl
  have hs' : (s.size : Int) = 32 := by omega
  rw [hs'] at h16 h32
  have HS := Lib.hid hs
  clear hlen hs
  go_enter Try.func48, Try.ntmps48
  go_wp2
  generalize grownCap w 32 0 5 = cp0 at hconv hO ⊢
  go_loopw [5, 6] (fun v iv wr => ∃ i : Nat, 8 ≤ i ∧ i ≤ 60 ∧ iv = .int .i64 i ∧ Own wr w.heap.size 1 v (4 * i) (bv (Sx.kall 8 s.data.toList i)).toList ∧ Below w.heap.size w wr)
    (fun _ iv _ => 60 - (intOf iv).toNat)
  case atStart =>
    refine ⟨8, by omega, by omega, rfl, ?_, hW⟩
    rw [Sx.kall_first _ _ _ (by omega)]
    exact hO
  case round =>
    clear hW hO hconv h16 h32 hs'
    obtain ⟨i, hi1, hi2, rfl, hO, hW⟩ := hrel
    by_cases hlt : i < 60
    · have hlti : (i : Int) < 60 := by omega
      obtain ⟨g, cap, rfl, hgb, hgl, hcap, hcells⟩ := hO.form (by omega)
      have hal := Sx.kall_length 8 s.data.toList HLEN.out i hi1
      have hsucc := Sx.kall_succ 8 s.data.toList i hi1
      generalize Sx.kall 8 s.data.toList i = all at hO hcells hal hsucc
      have HSUC := Lib.hid hsucc
      clear hsucc
      obtain ⟨o, ho⟩ : ∃ o : Nat, o + 4 = 4 * i := ⟨4 * i - 4, by omega⟩
      have c0 := hcells (o + 0) _ (bvl_get all (o + 0) (by omega))
      have c1 := hcells (o + 1) _ (bvl_get all (o + 1) (by omega))
      have c2 := hcells (o + 2) _ (bvl_get all (o + 2) (by omega))
      have c3 := hcells (o + 3) _ (bvl_get all (o + 3) (by omega))
      rw [Nat.add_zero] at c0
      generalize hx0 : all.getD o 0 = x0 at c0
      generalize hx1 : all.getD (o + 1) 0 = x1 at c1
      generalize hx2 : all.getD (o + 2) 0 = x2 at c2
      generalize hx3 : all.getD (o + 3) 0 = x3 at c3
      have HY : Hid (Sx.kwords 8 i all = Sx.kword 8 i x0 x1 x2 x3) := by
        unfold Sx.kwords
        rw [show 4 * i - 4 = o by omega, hx0, hx1, hx2, hx3]
        exact rfl
      clear hx0 hx1 hx2 hx3
      have HAL := Lib.hid hal
      clear hal
      have hsl : ∀ W, (Instr.slice 32 (.slice (some ⟨g, 0, none⟩) (4 * i) cap) (some (.int .i64 (4 * (i : Int) - 4))) (some (.int .i64 (4 * (i : Int)))) none).run Try.prog W = .ok (.slice (some ⟨g, o, none⟩) 4 (cap - o)) W := fun W => by
        rw [slice_win 32 5 Try.underlying32 hz8 g 0 (4 * i) cap o (4 * i) _ _ (by omega) (by omega) (by omega) (by omega) W, Nat.zero_add, show 4 * i - o = 4 by omega]
      have har : ∀ W, (Instr.arrayAt 143 (.slice (some ⟨g, o, none⟩) 4 (cap - o))).run Try.prog W = .ok (.pointer (some ⟨g, o, none⟩)) W := fun W => run_arrayAt (w := W) 143 5 4 _ 4 _ Try.underlying143 (by omega)
      have HO := Lib.hid ho
      clear ho
      by_cases hm : i % 8 = 0
      · obtain ⟨q, hq⟩ : ∃ q : Nat, q = i / 8 - 1 := ⟨_, rfl⟩
        have q0 : (i : Int) / 8 ≥ 1 ∧ (i : Int) / 8 ≤ 15 := by omega
        have q1 : IntKind.i64.wrap ((i : Int) / 8) = (i : Int) / 8 := IntWalk.i64_in _ (by omega)
        have q2 : IntKind.i64.wrap ((i : Int) / 8 - 1) = (q : Int) := by rw [IntWalk.i64_in _ (by omega)]; omega
        have hq9 : q ≤ 9223372036854775807 := by omega
        have HQ := Lib.hid hq
        clear hq q0
        go_wp2_with (refine wp_tail 19 hmx (by kernel_rfl) ?_; simp only [List.take_succ_cons, List.take_zero, List.drop_succ_cons, List.drop_zero]; (repeat still_step); still_call ((box_any _ _).mono fun _ _ h => ⟨h.1, h.2.symm⟩); (repeat still_step); still_call ((pow_any 2 q _ hq9).mono fun _ _ h => ⟨h.1, h.2.symm⟩); (repeat still_step); still_call ((box_any _ _).mono fun _ _ h => ⟨h.1, h.2.symm⟩); (repeat still_step); still_call ((box_any _ _).mono fun _ _ h => ⟨h.1, h.2.symm⟩); (repeat still_step); still_call ((box_any _ _).mono fun _ _ h => ⟨h.1, h.2.symm⟩); (repeat still_step); refine wpStill_nil ?_)
        have hO1 : Own (wr.alloc (Obj.cells #[Value.int IntKind.u8 (U8 (Sx.box x1 ^^^ Sx.pow 2 q)), Value.int IntKind.u8 (U8 (Sx.box x2)), Value.int IntKind.u8 (U8 (Sx.box x3)), Value.int IntKind.u8 (U8 (Sx.box x0))] 143)).drew w.heap.size 1 (.slice (some ⟨g, 0, none⟩) (4 * i) cap) (4 * i) (bv all).toList := (hO.alloc _)
        have hB1 : Blk (wr.alloc (Obj.cells #[Value.int IntKind.u8 (U8 (Sx.box x1 ^^^ Sx.pow 2 q)), Value.int IntKind.u8 (U8 (Sx.box x2)), Value.int IntKind.u8 (U8 (Sx.box x3)), Value.int IntKind.u8 (U8 (Sx.box x0))] 143)).drew wr.heap.size (bv [Sx.box x1 ^^^ Sx.pow 2 q, Sx.box x2, Sx.box x3, Sx.box x0]) 143 := Blk.new wr _ _
        have hW1 : Below w.heap.size w (wr.alloc (Obj.cells #[Value.int IntKind.u8 (U8 (Sx.box x1 ^^^ Sx.pow 2 q)), Value.int IntKind.u8 (U8 (Sx.box x2)), Value.int IntKind.u8 (U8 (Sx.box x3)), Value.int IntKind.u8 (U8 (Sx.box x0))] 143)).drew := (hW.alloc hW.size _).drew
        generalize (wr.alloc (Obj.cells #[Value.int IntKind.u8 (U8 (Sx.box x1 ^^^ Sx.pow 2 q)), Value.int IntKind.u8 (U8 (Sx.box x2)), Value.int IntKind.u8 (U8 (Sx.box x3)), Value.int IntKind.u8 (U8 (Sx.box x0))] 143)).drew = W1 at hO1 hB1 hW1 ⊢
        have HY' : Hid (Sx.kwords 8 i all = [Sx.box x1 ^^^ Sx.pow 2 q, Sx.box x2, Sx.box x3, Sx.box x0]) := by
          rw [HY.out, Sx.kword, if_pos hm, ← HQ.out]; exact rfl
        replace HY := HY'
        clear HY'
        obtain ⟨ys, hys⟩ : ∃ ys : List UInt8, ys = [Sx.box x1 ^^^ Sx.pow 2 q, Sx.box x2, Sx.box x3, Sx.box x0] := ⟨_, rfl⟩
        rw [← hys] at hB1 HY
        have HYL : Hid (ys.length = 4) := by rw [hys]; exact rfl
        clear hys c0 c1 c2 c3 hO hcells hsl har
        clear q1 q2 hm
        
        have hgb4 : g ≠ wr.heap.size := by omega
        have hW1b : wr.heap.size < W1.heap.size := hB1.lt
        generalize wr.heap.size = b4 at hB1 hgb4 hW1b ⊢
        go_loopw [5, 9, 85] (fun v9 _ rv wi => ∃ r : Nat, r ≤ 4 ∧ rv = .int .i64 r ∧ Own wi w.heap.size 1 v9 (4 * i + r) (bv (all ++ Sx.kadd 8 i all ys r)).toList ∧ Blk wi b4 (bv ys) 143 ∧ Below w.heap.size w wi ∧ (∀ k, v9.ownBlock = some k → k ≠ b4))
          (fun _ _ rv _ => 4 - (intOf rv).toNat)
        case atStart =>
          refine ⟨0, by omega, rfl, ?_, hB1, hW1, ?_⟩
          · rw [show Sx.kadd 8 i all ys 0 = [] from rfl, List.append_nil]
            exact hO1
          · intro k hk
            have : g = k := by simpa [Value.ownBlock] using hk
            omega
        case round =>
          clear hO1 hB1 hW1 hW1b hgb4
          obtain ⟨r, hr, rfl, hO9, hB9, hW9, hne9⟩ := hrel
          by_cases hlr : r < 4
          · obtain ⟨g9, cap9, rfl, hgb9, hgl9, hcap9, hcells9⟩ := hO9.form (by omega)
            obtain ⟨o2, ho2⟩ : ∃ o2 : Nat, o2 = 4 * (i - 8) + r := ⟨_, rfl⟩
            have ho3 : o2 < 4 * i + r := by omega
            have ho4 : (o2 : Int) < 4 * (i : Int) + (r : Int) := by omega
            have d1 : IntKind.i64.wrap ((i : Int) - 8) = (i : Int) - 8 := IntWalk.i64_in _ (by omega)
            have d2 : IntKind.i64.wrap (4 * ((i : Int) - 8)) = 4 * ((i : Int) - 8) := IntWalk.i64_in _ (by omega)
            have d3 : IntKind.i64.wrap (4 * ((i : Int) - 8) + (r : Int)) = (o2 : Int) := by rw [IntWalk.i64_in _ (by omega)]; omega
            have hget := bvl_get (all ++ Sx.kadd 8 i all ys r) o2 (by rw [List.length_append, HAL.out, Sx.kadd_length]; exact ho3)
            rw [show (all ++ Sx.kadd 8 i all ys r).getD o2 0 = all.getD o2 0 from getD_app _ _ _ _ (by rw [HAL.out]; omega)] at hget
            have hbg := bv_get ys r (by rw [HYL.out]; omega)
            have hks := Sx.kadd_succ 8 i all ys r
            rw [← ho2] at hks
            generalize hza : all.getD o2 0 = za at hget hks
            rw [show ys.getD r 0 = ys[r]'(by rw [HYL.out]; omega) by simp [HYL.out, hlr]] at hks
            generalize hzb : ys[r]'(by rw [HYL.out]; omega) = zb at hbg hks
            have HGET := Lib.hid hget
            have HBG := Lib.hid hbg
            have HKS := Lib.hid hks
            have HO2 := Lib.hid ho2
            clear hks ho2 hza hzb hcells9 hget hbg
            have hb4l := hB9.lt
            go_wp2_with fail
            go_region_held3 (fun W => W.cell? ⟨g9, o2, none⟩ = some (.int .u8 (U8 za)) ∧ W.cell? ⟨b4, r, none⟩ = some (.int .u8 (U8 zb)))
              (first
                | exact ⟨hO9.drew.cells _ _ HGET.out, hB9.drew.cell HBG.out⟩
                | exact ⟨(hO9.drew.alloc _).cells _ _ HGET.out, (hB9.drew.alloc _).cell HBG.out⟩
                | exact ⟨hkp _ rfl _ _ HGET.out, ((hB9.drew.alloc _).grown hg' (fun e => hne9 _ rfl (Option.some.inj e))).cell HBG.out⟩
                | assumption)
              ((refine own_step rfl _ _ 32 rfl 5 i8 (.int .u8 0) 1 1 Try.underlying32 e8 z8 s8 b8 rfl (by decide) w.heap.size (4 * i + r) (.slice (some ⟨g9, 0, none⟩) (4 * i + r) cap9) _ rfl (hO9.drew.alloc _) (by have := hW9.size; simp; omega) ⟨wr.heap.size, 0, none⟩ 1 1 [.int .u8 (U8 (za ^^^ zb))] rfl rfl (one_new _ _ _) (by simp [Value.oneCell']) (by unfold maxLen; omega) (by omega) ?_; intro v' w1 hO' hg' hk' hkp))
            go_wp2_with fail
            go_roundw
            case rel =>
              refine ⟨r + 1, by omega, by go_num, ?_, ?_, ?_, ?_⟩
              · rw [HKS.out, ← List.append_assoc]
                simpa [bv, Nat.add_assoc] using hO'
              · exact (hB9.drew.alloc _).grown hg' (fun e => hne9 _ rfl (Option.some.inj e))
              · exact ((hW9.drew).alloc (by have := hW9.size; exact this) _).grown hg' (by have := hW9.size; simp; omega) (fun k hk => (hO9.blk hk).1)
              · intro k hk
                rcases hk' k hk with h | h
                · exact hne9 k h
                · simp at h; omega
            case measure => simp [intOf]; omega
          · obtain rfl : r = 4 := by omega
            go_wp2
            go_roundw
            case rel =>
              refine ⟨i + 1, by omega, by omega, by go_num, ?_, hW9⟩
              rw [HSUC.out, HY.out, show 4 * (i + 1) = 4 * i + 4 by omega]
              exact hO9
            case measure => simp [intOf]; omega
      · have hm' : ((i : Int) % 8 == 0) = false := by simp; omega
        by_cases hm4 : i % 8 = 4
        · have hm4' : ((i : Int) % 8 == 4) = true := by simp; omega
          go_wp2_with fail
          have hxs : ([x0, x1, x2, x3] : List UInt8).length = 4 := rfl
          have hO1 : Own (wr.alloc (Obj.cells #[Value.int IntKind.u8 (U8 x0), Value.int IntKind.u8 (U8 x1), Value.int IntKind.u8 (U8 x2), Value.int IntKind.u8 (U8 x3)] 143)) w.heap.size 1 (.slice (some ⟨g, 0, none⟩) (4 * i) cap) (4 * i) (bv all).toList := (hO.alloc _)
          have hB1 : Blk (wr.alloc (Obj.cells #[Value.int IntKind.u8 (U8 x0), Value.int IntKind.u8 (U8 x1), Value.int IntKind.u8 (U8 x2), Value.int IntKind.u8 (U8 x3)] 143)) wr.heap.size (bv [x0, x1, x2, x3]) 143 := Blk.new wr _ _
          have hW1 : Below w.heap.size w (wr.alloc (Obj.cells #[Value.int IntKind.u8 (U8 x0), Value.int IntKind.u8 (U8 x1), Value.int IntKind.u8 (U8 x2), Value.int IntKind.u8 (U8 x3)] 143)) := (hW.alloc hW.size _)
          generalize (wr.alloc (Obj.cells #[Value.int IntKind.u8 (U8 x0), Value.int IntKind.u8 (U8 x1), Value.int IntKind.u8 (U8 x2), Value.int IntKind.u8 (U8 x3)] 143)) = W1 at hO1 hB1 hW1 ⊢
          have HY' : Hid (Sx.kwords 8 i all = ([x0, x1, x2, x3] : List UInt8).map Sx.box) := by
            rw [HY.out, Sx.kword, if_neg hm, if_pos ⟨rfl, hm4⟩]; exact rfl
          replace HY := HY'
          clear HY' c0 c1 c2 c3 hO hcells hsl har
          generalize ([x0, x1, x2, x3] : List UInt8) = xl at hB1 HY hxs
          have HXS := Lib.hid hxs
          have hgb3 : g ≠ wr.heap.size := by omega
          have hwb : w.heap.size ≤ wr.heap.size := hW.size
          generalize wr.heap.size = b4 at hB1 hgb3 hwb ⊢
          clear hxs hW
          go_loopw [8, 75] (fun _ rv wi => ∃ r : Nat, r ≤ 4 ∧ rv = .int .i64 r ∧ Blk wi b4 (bv (Sx.gens (fun i => Sx.box (xl.getD i 0)) (fun i => xl.getD i 0) 4 r)) 143 ∧ Own wi w.heap.size 1 (.slice (some ⟨g, 0, none⟩) (4 * i) cap) (4 * i) (bv all).toList ∧ Below w.heap.size w wi ∧ w.heap.size ≤ b4)
            (fun _ rv _ => 4 - (intOf rv).toNat)
          case atStart =>
            refine ⟨0, by omega, rfl, ?_, hO1, hW1, hwb⟩
            rw [Sx.gens_zero, Sx.range_getD _ _ _ HXS.out]; exact hB1
          case round =>
            clear hO1 hB1 hW1
            obtain ⟨r, hr, rfl, hB, hO, hW, hbb⟩ := hrel
            by_cases hlr : r < 4
            · have hc := hB.cell (bv_at _ r _ (Sx.gens_get _ _ 4 r r hlr))
              rw [if_neg (Nat.lt_irrefl r)] at hc
              have hf := hB.free r
              generalize hx : xl.getD r 0 = x at hc
              have HX := Lib.hid hx
              clear hx
              go_wp2_with (go_at_call 96; refine (box_any _ _).mono ?_; rintro e w' ⟨rfl, rfl⟩)
              go_roundw
              case rel =>
                refine ⟨r + 1, by omega, by go_num, ?_, hO.other (fun k hk e => hgb3 (by
                  have e2 : g = k := by simpa [Value.ownBlock] using hk
                  exact e2.trans e.symm)) _, hW.setCell hbb _, hbb⟩
                rw [← Sx.gens_set, ← bv_set, HX.out]
                exact hB.set r _
              case measure => simp [intOf]; omega
            · obtain rfl : r = 4 := by omega
              rw [Sx.gens_all, Sx.map_range_getD _ _ _ _ HXS.out] at hB
              have hYL : (xl.map Sx.box).length = 4 := by rw [List.length_map]; exact HXS.out
              generalize xl.map Sx.box = ys at hB HY hYL
              have HYL := Lib.hid hYL
              clear hYL HXS
              go_wp2_with fail
              rw [show ((4 : Nat) : Int) = 4 from rfl]
              have hB1 := hB
              have hO1 := hO
              have hW1 := hW
              have hgb4 := hgb3
              have hW1b := hB1.lt
              clear hO hB hW hgb3 hm4 hm4' hm hm' hbb hwb

              go_loopw [5, 9, 85] (fun v9 _ rv wi => ∃ r : Nat, r ≤ 4 ∧ rv = .int .i64 r ∧ Own wi w.heap.size 1 v9 (4 * i + r) (bv (all ++ Sx.kadd 8 i all ys r)).toList ∧ Blk wi b4 (bv ys) 143 ∧ Below w.heap.size w wi ∧ (∀ k, v9.ownBlock = some k → k ≠ b4))
                (fun _ _ rv _ => 4 - (intOf rv).toNat)
              case atStart =>
                refine ⟨0, by omega, rfl, ?_, hB1, hW1, ?_⟩
                · rw [show Sx.kadd 8 i all ys 0 = [] from rfl, List.append_nil]
                  exact hO1
                · intro k hk
                  have : g = k := by simpa [Value.ownBlock] using hk
                  omega
              case round =>
                clear hO1 hB1 hW1 hW1b hgb4
                obtain ⟨r, hr, rfl, hO9, hB9, hW9, hne9⟩ := hrel
                by_cases hlr : r < 4
                · obtain ⟨g9, cap9, rfl, hgb9, hgl9, hcap9, hcells9⟩ := hO9.form (by omega)
                  obtain ⟨o2, ho2⟩ : ∃ o2 : Nat, o2 = 4 * (i - 8) + r := ⟨_, rfl⟩
                  have ho3 : o2 < 4 * i + r := by omega
                  have ho4 : (o2 : Int) < 4 * (i : Int) + (r : Int) := by omega
                  have d1 : IntKind.i64.wrap ((i : Int) - 8) = (i : Int) - 8 := IntWalk.i64_in _ (by omega)
                  have d2 : IntKind.i64.wrap (4 * ((i : Int) - 8)) = 4 * ((i : Int) - 8) := IntWalk.i64_in _ (by omega)
                  have d3 : IntKind.i64.wrap (4 * ((i : Int) - 8) + (r : Int)) = (o2 : Int) := by rw [IntWalk.i64_in _ (by omega)]; omega
                  have hget := bvl_get (all ++ Sx.kadd 8 i all ys r) o2 (by rw [List.length_append, HAL.out, Sx.kadd_length]; exact ho3)
                  rw [show (all ++ Sx.kadd 8 i all ys r).getD o2 0 = all.getD o2 0 from getD_app _ _ _ _ (by rw [HAL.out]; omega)] at hget
                  have hbg := bv_get ys r (by rw [HYL.out]; omega)
                  have hks := Sx.kadd_succ 8 i all ys r
                  rw [← ho2] at hks
                  generalize hza : all.getD o2 0 = za at hget hks
                  rw [show ys.getD r 0 = ys[r]'(by rw [HYL.out]; omega) by simp [HYL.out, hlr]] at hks
                  generalize hzb : ys[r]'(by rw [HYL.out]; omega) = zb at hbg hks
                  have HGET := Lib.hid hget
                  have HBG := Lib.hid hbg
                  have HKS := Lib.hid hks
                  have HO2 := Lib.hid ho2
                  clear hks ho2 hza hzb hcells9 hget hbg
                  have hb4l := hB9.lt
                  go_wp2_with fail
                  go_region_held3 (fun W => W.cell? ⟨g9, o2, none⟩ = some (.int .u8 (U8 za)) ∧ W.cell? ⟨b4, r, none⟩ = some (.int .u8 (U8 zb)))
                    (first
                      | exact ⟨hO9.drew.cells _ _ HGET.out, hB9.drew.cell HBG.out⟩
                      | exact ⟨(hO9.drew.alloc _).cells _ _ HGET.out, (hB9.drew.alloc _).cell HBG.out⟩
                      | exact ⟨hkp _ rfl _ _ HGET.out, ((hB9.drew.alloc _).grown hg' (fun e => hne9 _ rfl (Option.some.inj e))).cell HBG.out⟩
                      | assumption)
                    ((refine own_step rfl _ _ 32 rfl 5 i8 (.int .u8 0) 1 1 Try.underlying32 e8 z8 s8 b8 rfl (by decide) w.heap.size (4 * i + r) (.slice (some ⟨g9, 0, none⟩) (4 * i + r) cap9) _ rfl (hO9.drew.alloc _) (by have := hW9.size; simp; omega) ⟨wr.heap.size, 0, none⟩ 1 1 [.int .u8 (U8 (za ^^^ zb))] rfl rfl (one_new _ _ _) (by simp [Value.oneCell']) (by unfold maxLen; omega) (by omega) ?_; intro v' w1 hO' hg' hk' hkp))
                  go_wp2_with fail
                  go_roundw
                  case rel =>
                    refine ⟨r + 1, by omega, by go_num, ?_, ?_, ?_, ?_⟩
                    · rw [HKS.out, ← List.append_assoc]
                      simpa [bv, Nat.add_assoc] using hO'
                    · exact (hB9.drew.alloc _).grown hg' (fun e => hne9 _ rfl (Option.some.inj e))
                    · exact ((hW9.drew).alloc (by have := hW9.size; exact this) _).grown hg' (by have := hW9.size; simp; omega) (fun k hk => (hO9.blk hk).1)
                    · intro k hk
                      rcases hk' k hk with h | h
                      · exact hne9 k h
                      · simp at h; omega
                  case measure => simp [intOf]; omega
                · obtain rfl : r = 4 := by omega
                  go_wp2
                  go_roundw
                  case rel =>
                    refine ⟨i + 1, by omega, by omega, by go_num, ?_, hW9⟩
                    rw [HSUC.out, HY.out, show 4 * (i + 1) = 4 * i + 4 by omega]
                    exact hO9
                  case measure => simp [intOf]; omega
        · have hm4' : ((i : Int) % 8 == 4) = false := by simp; omega
          go_wp2_with fail
          have hO1 : Own (wr.alloc (Obj.cells #[Value.int IntKind.u8 (U8 x0), Value.int IntKind.u8 (U8 x1), Value.int IntKind.u8 (U8 x2), Value.int IntKind.u8 (U8 x3)] 143)) w.heap.size 1 (.slice (some ⟨g, 0, none⟩) (4 * i) cap) (4 * i) (bv all).toList := (hO.alloc _)
          have hB1 : Blk (wr.alloc (Obj.cells #[Value.int IntKind.u8 (U8 x0), Value.int IntKind.u8 (U8 x1), Value.int IntKind.u8 (U8 x2), Value.int IntKind.u8 (U8 x3)] 143)) wr.heap.size (bv [x0, x1, x2, x3]) 143 := Blk.new wr _ _
          have hW1 : Below w.heap.size w (wr.alloc (Obj.cells #[Value.int IntKind.u8 (U8 x0), Value.int IntKind.u8 (U8 x1), Value.int IntKind.u8 (U8 x2), Value.int IntKind.u8 (U8 x3)] 143)) := (hW.alloc hW.size _)
          generalize (wr.alloc (Obj.cells #[Value.int IntKind.u8 (U8 x0), Value.int IntKind.u8 (U8 x1), Value.int IntKind.u8 (U8 x2), Value.int IntKind.u8 (U8 x3)] 143)) = W1 at hO1 hB1 hW1 ⊢
          have HY' : Hid (Sx.kwords 8 i all = [x0, x1, x2, x3]) := by
            rw [HY.out, Sx.kword, if_neg hm, if_neg (by omega)]; exact rfl
          replace HY := HY'
          clear HY'
          obtain ⟨ys, hys⟩ : ∃ ys : List UInt8, ys = [x0, x1, x2, x3] := ⟨_, rfl⟩
          rw [← hys] at hB1 HY
          have HYL : Hid (ys.length = 4) := by rw [hys]; exact rfl
          clear hys c0 c1 c2 c3 hO hcells hsl har hm
          clear hm'
          
          have hgb4 : g ≠ wr.heap.size := by omega
          have hW1b : wr.heap.size < W1.heap.size := hB1.lt
          generalize wr.heap.size = b4 at hB1 hgb4 hW1b ⊢
          go_loopw [5, 9, 85] (fun v9 _ rv wi => ∃ r : Nat, r ≤ 4 ∧ rv = .int .i64 r ∧ Own wi w.heap.size 1 v9 (4 * i + r) (bv (all ++ Sx.kadd 8 i all ys r)).toList ∧ Blk wi b4 (bv ys) 143 ∧ Below w.heap.size w wi ∧ (∀ k, v9.ownBlock = some k → k ≠ b4))
            (fun _ _ rv _ => 4 - (intOf rv).toNat)
          case atStart =>
            refine ⟨0, by omega, rfl, ?_, hB1, hW1, ?_⟩
            · rw [show Sx.kadd 8 i all ys 0 = [] from rfl, List.append_nil]
              exact hO1
            · intro k hk
              have : g = k := by simpa [Value.ownBlock] using hk
              omega
          case round =>
            clear hO1 hB1 hW1 hW1b hgb4
            obtain ⟨r, hr, rfl, hO9, hB9, hW9, hne9⟩ := hrel
            by_cases hlr : r < 4
            · obtain ⟨g9, cap9, rfl, hgb9, hgl9, hcap9, hcells9⟩ := hO9.form (by omega)
              obtain ⟨o2, ho2⟩ : ∃ o2 : Nat, o2 = 4 * (i - 8) + r := ⟨_, rfl⟩
              have ho3 : o2 < 4 * i + r := by omega
              have ho4 : (o2 : Int) < 4 * (i : Int) + (r : Int) := by omega
              have d1 : IntKind.i64.wrap ((i : Int) - 8) = (i : Int) - 8 := IntWalk.i64_in _ (by omega)
              have d2 : IntKind.i64.wrap (4 * ((i : Int) - 8)) = 4 * ((i : Int) - 8) := IntWalk.i64_in _ (by omega)
              have d3 : IntKind.i64.wrap (4 * ((i : Int) - 8) + (r : Int)) = (o2 : Int) := by rw [IntWalk.i64_in _ (by omega)]; omega
              have hget := bvl_get (all ++ Sx.kadd 8 i all ys r) o2 (by rw [List.length_append, HAL.out, Sx.kadd_length]; exact ho3)
              rw [show (all ++ Sx.kadd 8 i all ys r).getD o2 0 = all.getD o2 0 from getD_app _ _ _ _ (by rw [HAL.out]; omega)] at hget
              have hbg := bv_get ys r (by rw [HYL.out]; omega)
              have hks := Sx.kadd_succ 8 i all ys r
              rw [← ho2] at hks
              generalize hza : all.getD o2 0 = za at hget hks
              rw [show ys.getD r 0 = ys[r]'(by rw [HYL.out]; omega) by simp [HYL.out, hlr]] at hks
              generalize hzb : ys[r]'(by rw [HYL.out]; omega) = zb at hbg hks
              have HGET := Lib.hid hget
              have HBG := Lib.hid hbg
              have HKS := Lib.hid hks
              have HO2 := Lib.hid ho2
              clear hks ho2 hza hzb hcells9 hget hbg
              have hb4l := hB9.lt
              go_wp2_with fail
              go_region_held3 (fun W => W.cell? ⟨g9, o2, none⟩ = some (.int .u8 (U8 za)) ∧ W.cell? ⟨b4, r, none⟩ = some (.int .u8 (U8 zb)))
                (first
                  | exact ⟨hO9.drew.cells _ _ HGET.out, hB9.drew.cell HBG.out⟩
                  | exact ⟨(hO9.drew.alloc _).cells _ _ HGET.out, (hB9.drew.alloc _).cell HBG.out⟩
                  | exact ⟨hkp _ rfl _ _ HGET.out, ((hB9.drew.alloc _).grown hg' (fun e => hne9 _ rfl (Option.some.inj e))).cell HBG.out⟩
                  | assumption)
                ((refine own_step rfl _ _ 32 rfl 5 i8 (.int .u8 0) 1 1 Try.underlying32 e8 z8 s8 b8 rfl (by decide) w.heap.size (4 * i + r) (.slice (some ⟨g9, 0, none⟩) (4 * i + r) cap9) _ rfl (hO9.drew.alloc _) (by have := hW9.size; simp; omega) ⟨wr.heap.size, 0, none⟩ 1 1 [.int .u8 (U8 (za ^^^ zb))] rfl rfl (one_new _ _ _) (by simp [Value.oneCell']) (by unfold maxLen; omega) (by omega) ?_; intro v' w1 hO' hg' hk' hkp))
              go_wp2_with fail
              go_roundw
              case rel =>
                refine ⟨r + 1, by omega, by go_num, ?_, ?_, ?_, ?_⟩
                · rw [HKS.out, ← List.append_assoc]
                  simpa [bv, Nat.add_assoc] using hO'
                · exact (hB9.drew.alloc _).grown hg' (fun e => hne9 _ rfl (Option.some.inj e))
                · exact ((hW9.drew).alloc (by have := hW9.size; exact this) _).grown hg' (by have := hW9.size; simp; omega) (fun k hk => (hO9.blk hk).1)
                · intro k hk
                  rcases hk' k hk with h | h
                  · exact hne9 k h
                  · simp at h; omega
              case measure => simp [intOf]; omega
            · obtain rfl : r = 4 := by omega
              go_wp2
              go_roundw
              case rel =>
                refine ⟨i + 1, by omega, by omega, by go_num, ?_, hW9⟩
                rw [HSUC.out, HY.out, show 4 * (i + 1) = 4 * i + 4 by omega]
                exact hO9
              case measure => simp [intOf]; omega
    · obtain rfl : i = 60 := by omega
      go_wp2
      have hO : Own wr w.heap.size 1 _ 240 (bv (Sx.kall 8 s.data.toList 60)).toList := hO
      rw [show ((60 : Nat) : Int) = 60 from rfl]
      have hnil := Own.nil wr w.heap.size 1
      obtain ⟨kf, hkf⟩ : ∃ kf : Nat → ByteArray, kf = fun j => ⟨(Sx.keyAt 8 s.data.toList j).toArray⟩ := ⟨_, rfl⟩
      have HKF := Lib.hid hkf
      clear hkf
      have hOut : Own wr w.heap.size 1 (.slice none 0 0) 0 ((List.range 0).map fun j => Value.string (kf j)) := hnil
      clear hnil
      obtain ⟨g, cap, rfl, hgb, hgl, hcap, hcells⟩ := hO.form (by omega)
      generalize hall : Sx.kall 8 s.data.toList 60 = all at hO hcells
      have hal : all.length = 240 := by rw [← hall, Sx.kall_length 8 _ HLEN.out _ (by omega)]
      have HALL := Lib.hid hall
      have HAL := Lib.hid hal
      clear hall hal
      obtain ⟨outs, hos⟩ : ∃ outs : Nat → List Value, outs = fun j => (List.range j).map fun j => Value.string (kf j) := ⟨_, rfl⟩
      have HOS := Lib.hid hos
      have hOut : Own wr w.heap.size 1 (.slice none 0 0) 0 (outs 0) := by rw [hos]; exact hOut
      clear hos
      go_loopw [10, 11] (fun v10 iv wi => ∃ j : Nat, j ≤ 15 ∧ iv = .int .i64 (16 * (j : Int)) ∧ Own wi w.heap.size 1 v10 j (outs j) ∧ Own wi w.heap.size 1 (.slice (some ⟨g, 0, none⟩) 240 cap) 240 (bv all).toList ∧ Below w.heap.size w wi ∧ (∀ k, v10.ownBlock = some k → k ≠ g))
        (fun _ iv _ => 240 - (intOf iv).toNat)
      case atStart => exact ⟨0, by omega, rfl, hOut, hO, hW, fun k hk => by simp [Value.ownBlock] at hk⟩
      case round =>
        clear hO hW hOut hcells
        obtain ⟨j, hj, rfl, hOut, hO, hW, hne⟩ := hrel
        by_cases hlt : j < 15
        · have hlt' : 16 * (j : Int) < 240 := by omega
          have hkl : (Sx.keyAt 8 s.data.toList j).length = 16 := Sx.keyAt_length 8 _ HLEN.out j (by omega)
          have hkc : ∀ q (hq : q < (Sx.keyAt 8 s.data.toList j).length), wr.cell? ⟨g, 16 * j + q, none⟩ = some (.int .u8 (U8 ((Sx.keyAt 8 s.data.toList j)[q]))) := fun q hq => by
            refine hO.cells _ _ ?_
            rw [bvl_get _ _ (by rw [HAL.out]; omega), ← HALL.out]
            simp only [Sx.keyAt, List.getElem_take, List.getElem_drop]
            rw [List.getD_eq_getElem?_getD, List.getElem?_eq_getElem (by rw [HALL.out, HAL.out]; omega)]
            rfl
          have hcv := bytes_back_at (P := Try.prog) 32 9 5 Try.underlying32 Try.underlying5 Try.underlying9 hkc 16 (cap - 16 * j) hkl
          have hkj : kf j = ⟨(Sx.keyAt 8 s.data.toList j).toArray⟩ := by rw [HKF.out]
          have hos1 : outs (j + 1) = outs j ++ [.string (kf j)] := by rw [HOS.out]; simp [List.range_succ]
          rw [← hkj] at hcv
          generalize kf j = kj at hcv hos1
          have HOS1 := Lib.hid hos1
          clear hkl hkc hos1
          have hsl : ∀ W, (Instr.slice 32 (.slice (some ⟨g, 0, none⟩) 240 cap) (some (.int .i64 (16 * (j : Int)))) (some (.int .i64 (16 * (j : Int) + 16))) none).run Try.prog W = .ok (.slice (some ⟨g, 16 * j, none⟩) 16 (cap - 16 * j)) W := fun W => by
            rw [slice_win 32 5 Try.underlying32 hz8 g 0 240 cap (16 * j) (16 * j + 16) _ _ (by omega) (by omega) (by omega) (by omega) W, Nat.zero_add, show 16 * j + 16 - 16 * j = 16 by omega]
          have hw : IntKind.i64.wrap (16 * (j : Int) + 16) = 16 * (j : Int) + 16 := IntWalk.i64_in _ (by omega)
          go_wp2_with (refine own_append rfl _ _ 88 rfl 9 iS (.string ⟨#[]⟩) 1 16 Try.underlying88 eS zS sS bS rfl (by decide) w.heap.size j _ _ rfl (hOut.alloc _) (by have := hW.size; simp; omega) ⟨wr.heap.size, 0, none⟩ 1 1 [.string kj] rfl rfl (one_new _ _ _) (by simp [Value.oneCell']) (by unfold maxLen; omega) (by omega) ?_; intro v' w1 hO' hg' hk' hkp)
          go_roundw
          case rel =>
            refine ⟨j + 1, by omega, by go_num, ?_, ?_, ?_, ?_⟩
            · rw [HOS1.out]
              exact hO'
            · exact (hO.alloc _).kept hg' (fun k hk e => hne k e (by
                have : g = k := by simpa [Value.ownBlock] using hk
                exact this.symm))
            · exact (hW.alloc (by have := hW.size; exact this) _).grown hg' (by have := hW.size; simp; omega) (fun k hk => (hOut.blk hk).1)
            · intro k hk
              rcases hk' k hk with h | h
              · exact hne k h
              · have hgg : g < wr.heap.size := (hO.blk rfl).2
                simp at h; omega
          case measure => simp [intOf]; omega
        · obtain rfl : j = 15 := by omega
          obtain ⟨g2, cap2, rfl, hgb2, hgl2, hcap2, hcells2⟩ := hOut.form (by omega)
          go_wp2_with fail
          go_ret2
          refine ⟨g2, cap2, rfl, hgb2, hcap2, fun j hj => ?_, hW⟩
          refine hcells2 j _ ?_
          rw [HOS.out, HKF.out]
          simp [hj]
      
end K8
end Go.Proofs.Ytieooonobjkglaa
namespace Go.Proofs.Ytieooonobjkglaa
open Go Go.Proofs Go.RowKit SW
set_option maxRecDepth 20000
set_option maxHeartbeats 8000000

/-- One block of AES under a key of 4 k bytes, as bytes. -/
def Sx.aes (k : Nat) (key block : List UInt8) : List UInt8 := crypt (k + 7) (fun j => keyAt k key j) block
theorem Sx.aes_length (k : Nat) (key block : List UInt8) : (Sx.aes k key block).length = 16 := by
  unfold Sx.aes Sx.crypt
  exact Sx.rounds_length _ _ _ (Sx.withKey_length _ _) _

theorem encrypt_of (k : Nat) (hk1 : 2 ≤ k + 7) (hk2 : k + 7 ≤ 100) (key s : ByteArray) (hkey : key.size = 4 * k) (hs : s.size = 16) (w : World)
    (hkeys : Calls Try.prog 48 #[.string key] w fun e w' => ∃ g cap, e = .returned (.tuple #[.slice (some ⟨g, 0, none⟩) (k + 7) cap, .int .i64 0]) ∧ w.heap.size ≤ g ∧ k + 7 ≤ cap ∧
      (∀ j, j < k + 7 → w'.cell? ⟨g, j, none⟩ = some (.string ⟨(Sx.keyAt k key.data.toList j).toArray⟩)) ∧ Below w.heap.size w w') :
    Calls Try.prog 17 #[.string key, .string s] w fun e w' => e = .returned (.tuple #[.string ⟨(Sx.aes k key.data.toList s.data.toList).toArray⟩, .int .i64 0]) ∧ Below w.heap.size w w' := by
  go_enter Try.func17, Try.ntmps17
  go_wp2_with (first
    | (go_at_call 48; refine hkeys.mono ?_; rintro e w1 ⟨g, cap, rfl, hg, hcap, hcells, hW⟩))
  have hlen : ∀ j, j < k + 7 → (ByteArray.mk (Sx.keyAt k key.data.toList j).toArray).size = 16 := fun j hj => by
    have := Sx.keyAt_length k key.data.toList (by simpa using hkey) j hj
    simpa [ByteArray.size] using this
  have hst : ∀ j, j < k + 7 → (w1.alloc (Obj.cells #[Value.slice (some { block := g, off := 0 }) (k + 7) cap] 88)).cell? ⟨g, j, none⟩ = some (.string ⟨(Sx.keyAt k key.data.toList j).toArray⟩) := fun j hj => by
    rw [World.cell?_alloc_lt _ _ _ (World.block_lt_of_cell? _ _ (hcells j hj))]
    exact hcells j hj
  refine (done_any s hs (k + 7) (fun j => ⟨(Sx.keyAt k key.data.toList j).toArray⟩) w1.heap.size g cap hk1 hk2 hlen _ ((Blk.new w1 _ _).cell (k := 0) rfl) hcap hst).mono ?_
  rintro e w2 ⟨rfl, hW2⟩
  go_wp2
  go_ret2
  exact ⟨rfl, (hW.alloc hW.size _).trans (hW2.mono (by have := hW.size; simp; omega))⟩

theorem encrypt_any (k : Nat) (hk : k = 4 ∨ k = 8) (key s : ByteArray) (hkey : key.size = 4 * k) (hs : s.size = 16) (w : World) :
    Calls Try.prog 17 #[.string key, .string s] w fun e w' => e = .returned (.tuple #[.string ⟨(Sx.aes k key.data.toList s.data.toList).toArray⟩, .int .i64 0]) ∧ Below w.heap.size w w' := by
  rcases hk with rfl | rfl
  · exact encrypt_of 4 (by omega) (by omega) key s hkey hs w (K4.keys key hkey w)
  · exact encrypt_of 8 (by omega) (by omega) key s hkey hs w (K8.keys key hkey w)
end Go.Proofs.Ytieooonobjkglaa
