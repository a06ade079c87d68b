/- The contract of ghash.Blocks. DOES NOT BUILD WHOLE YET. -/
import Derived.Test.YtieooonobjkglaaGhD
namespace Go.Proofs.Ytieooonobjkglaa
open Go Go.Proofs Go.RowKit Go.Shelf SW
set_option maxRecDepth 20000
set_option maxHeartbeats 4000000
attribute [local go_sem] Oper.semAt_some

theorem Own.base {w : World} {base base' size n : Nat} {v : Value} {xs : List Value} (h : Own w base size v n xs) (hb : base' ≤ base) : Own w base' size v n xs := by
  refine ⟨h.1, ?_⟩
  rcases h.2 with h2 | ⟨g, cap, h3, h4, h5⟩
  · exact .inl h2
  · exact .inr ⟨g, cap, h3, by omega, h5⟩
theorem Own.isSlice {w : World} {base size n : Nat} {v : Value} {xs : List Value} (h : Own w base size v n xs) : ∃ b c, v = .slice b n c := by
  rcases h.2 with ⟨rfl, rfl⟩ | ⟨g, cap, rfl, _⟩
  · exact ⟨_, _, rfl⟩
  · exact ⟨_, _, rfl⟩
abbrev KeptD (w : World) (a : Addr) (v : Value) (D : Nat) (W : World) : Prop := Below w.heap.size w W ∧ W.cell? a = some v ∧ W.heap[D]? = some (.deferred (some []))
theorem keptD {w : World} {a : Addr} {v : Value} {D : Nat} {W1 W2 : World} (h : KeptD w a v D W1) (hk : Below W1.heap.size W1 W2) : KeptD w a v D W2 :=
  ⟨Below.callee h.1 hk, (hk.cell (World.block_lt_of_cell? _ _ h.2.1)).trans h.2.1, (hk.block _ (Array.getElem?_eq_some_iff.1 h.2.2).1).trans h.2.2⟩
theorem keptD_grown {w : World} {a : Addr} {v u : Value} {D : Nat} {W1 W2 : World} (h : KeptD w a v D W1) (hg : W1.grownBy W2 u.ownBlock) (hb : ∀ k, u.ownBlock = some k → w.heap.size ≤ k ∧ a.block ≠ k ∧ D ≠ k) : KeptD w a v D W2 :=
  ⟨h.1.grown hg h.1.size (fun k hk => (hb k hk).1), (World.cell?_of_block (hg.block a.block (World.block_lt_of_cell? _ _ h.2.1) (fun e => (hb _ e.symm).2.1 rfl))).trans h.2.1,
    (hg.block _ (Array.getElem?_eq_some_iff.1 h.2.2).1 (fun e => (hb _ e.symm).2.2 rfl)).trans h.2.2⟩
theorem U64_len (n : Nat) (h : n ≤ 100000) : IntKind.u64.wrap (IntKind.u64.wrap (n : Int) * 8) = U64 (UInt64.ofNat (8 * n)) := by
  have e1 : IntKind.u64.wrap (n : Int) = n := by
    simp only [IntKind.wrap, IntKind.bits, IntKind.signed]
    simp
    omega
  rw [e1]
  unfold U64
  simp only [IntKind.wrap, IntKind.bits, IntKind.signed]
  simp [UInt64.toNat_ofNat']
  omega
/-- A text's two sizes. -/
def Sx.sizes (h s : List UInt8) : List UInt8 := Sx.nums (UInt64.ofNat (8 * h.length)) ++ Sx.nums (UInt64.ofNat (8 * s.length))
/-- The texts' blocks, and their sizes. -/
def Sx.blocks (h s : List UInt8) : List ByteArray := Sx.chunks h ++ Sx.chunks s ++ [⟨(Sx.sizes h s).toArray⟩]
theorem bytes_len (n : Nat) (h : n ≤ 100000) (w : World) : Calls Try.prog 149 #[.int .u64 (IntKind.u64.wrap (IntKind.u64.wrap (n : Int) * 8))] w fun e w' => e = .returned (.string ⟨(Sx.nums (UInt64.ofNat (8 * n))).toArray⟩) ∧ Below w.heap.size w w' := by
  rw [U64_len n h]
  exact bytes_any _ w
theorem blocks_any (h s : ByteArray) (hh : h.size ≤ 100000) (hs : s.size ≤ 100000) (w : World) :
    Calls Try.prog 113 #[.string h, .string s] w fun e w' =>
      ∃ v, e = .returned v ∧ Own w' w.heap.size 1 v (Sx.blocks h.data.toList s.data.toList).length (strs (Sx.blocks h.data.toList s.data.toList)) ∧ Below w.heap.size w w' := by
  refine (callsIn_wide (n := 3)).1 ?_
  refine callsIn_of_wp_marks Try.func113 rfl trivial ?_ rfl
  simp only [Try.ntmps113, List.size_toArray, List.length_cons, List.length_nil, Nat.reduceAdd, Nat.reduceSub, Array.replicate_succ, Array.replicate_zero, List.push_toArray, List.append_toArray, List.nil_append, List.cons_append]
  refine wpIn_wide.2 ?_
  go_wp2_with (first
    | (go_at_call 148; refine (filled_any _ _).mono ?_; rintro e w1 ⟨rfl, rfl⟩)
    | (go_at_call 147; refine (collect_any h hh w.heap.size _ (Blk.new _ _ _)).mono ?_; rintro e w1 ⟨v1, rfl, hO1, hX1, hN1⟩; obtain ⟨bb, cc, rfl⟩ := hO1.isSlice))
  have hlh : (Sx.chunks h.data.toList).length = (h.size + 15) / 16 := by simp [Sx.chunks]
  have hls : (Sx.chunks s.data.toList).length = (s.size + 15) / 16 := by simp [Sx.chunks]
  generalize hch : Sx.chunks h.data.toList = ch at hO1 hN1 hlh
  have HCH := Lib.hid hch
  clear hch
  have HLH := Lib.hid hlh
  have HLS := Lib.hid hls
  clear hlh hls
  have hW1 : Below w.heap.size w w1 := ⟨hX1.os, hX1.tape, hX1.output, by have := hX1.size; simp at this; omega, fun j hj => (hX1.low j (by simp; omega) (by omega)).trans (Below.heap_alloc _ _ _ hj)⟩
  have hO1 : Own w1 w.heap.size 1 (.slice bb ch.length cc) ch.length (strs ch) := hO1.base (by simp)
  have hN9 : ∀ g, (Value.slice bb ch.length cc).ownBlock = some g → g < w1.heap.size := fun g hg => (hO1.blk hg).2
  have hB5 : Blk ((w1.alloc (Obj.cells #[Value.slice bb ch.length cc] 88)).alloc (Obj.cells #[Value.string s] 9)) w1.heap.size #[Value.slice bb ch.length cc] 88 := (Blk.new _ _ _).alloc _
  have hB6 : Blk ((w1.alloc (Obj.cells #[Value.slice bb ch.length cc] 88)).alloc (Obj.cells #[Value.string s] 9)) (w1.heap.size + 1) #[Value.string s] 9 := Blk.new' _ _ _ (by simp)
  have hO2 : Own ((w1.alloc (Obj.cells #[Value.slice bb ch.length cc] 88)).alloc (Obj.cells #[Value.string s] 9)) w.heap.size 1 (.slice bb ch.length cc) ch.length (strs ch) := (hO1.alloc _).alloc _
  have hW2 : Below w.heap.size w ((w1.alloc (Obj.cells #[Value.slice bb ch.length cc] 88)).alloc (Obj.cells #[Value.string s] 9)) := (hW1.alloc hW1.size _).alloc (by have := hW1.size; simp; omega) _
  have hs2 : ((w1.alloc (Obj.cells #[Value.slice bb ch.length cc] 88)).alloc (Obj.cells #[Value.string s] 9)).heap.size = w1.heap.size + 2 := by simp
  have hww := hW1.size
  obtain ⟨b5, hb5⟩ : ∃ b5, b5 = w1.heap.size := ⟨_, rfl⟩
  rw [← hb5] at hB5 hB6 hs2 hww hN9 ⊢
  generalize ((w1.alloc (Obj.cells #[Value.slice bb ch.length cc] 88)).alloc (Obj.cells #[Value.string s] 9)) = W2 at hB5 hB6 hO2 hW2 hs2 ⊢
  clear hO1 hW1 hX1 hb5
  refine wpIn_wide.1 (range_law (n := 3) (by omega) (gf := 173) (lb := #[.pointer (some ⟨b5 + 1, 0, none⟩)]) rfl (enters_of Try.func173 (by kernel_rfl) rfl) (filled1 s hs 2 (by omega) (b5 + 1)) hB6 (fun _ => rfl)
    (fun k W => (∃ v, Blk W b5 #[v] 88 ∧ Own W w.heap.size 1 v (ch.length + k) (strs ch ++ strs ((Sx.chunks s.data.toList).take k)) ∧ (ch.length + k = 0 → v = .slice none 0 0) ∧ (∀ g, v.ownBlock = some g → g ≠ b5 ∧ g ≠ b5 + 1)) ∧ Below w.heap.size w W)
    ?hI ?hIs ?h0 (fun x => { tmps := #[.string h, .string s, undef, undef, .slice none 0 0, .pointer (some ⟨b5, 0, none⟩), .string x, .string h, .func (.func 173) #[] #[.pointer (some ⟨w.heap.size, 0, none⟩)], .slice bb ch.length cc, .string s, .func (.func 173) #[] #[.pointer (some ⟨b5 + 1, 0, none⟩)], .string x, undef, undef, undef, undef, undef, undef, undef, undef, undef, undef, undef, undef, undef, undef, undef, undef, undef, undef], defers := [] }) ?assign ?body ?done)
  case hI =>
    rintro k A A' ⟨⟨v, h1, h2, h3, h4⟩, h5⟩ hk
    exact ⟨⟨v, hk.blk h1, hk.own h2 (h2.cellsOf h3), h3, h4⟩, ⟨hk.os.trans h5.os, hk.tape.trans h5.tape, hk.output.trans h5.output, Nat.le_trans h5.size hk.size, fun j hj => (hk.low j (by omega)).trans (h5.block j hj)⟩⟩
  case hIs =>
    rintro k A u ⟨⟨v, h1, h2, h3, h4⟩, h5⟩
    exact ⟨⟨v, h1.other (by simp) _, h2.other (fun k hk e => (h4 k hk).2 (by simp at e; omega)) _, h3, h4⟩, h5.setCell (by simp; omega) _⟩
  case h0 =>
    exact ⟨⟨_, hB5, by simpa [strs] using hO2, fun e => hN1 (by omega), fun g hg => by have := hN9 g hg; omega⟩, hW2⟩
  case assign =>
    intro l x W K hK
    gi_wp2
    exact hK
  case body =>
    rintro l k x W hx ⟨⟨v, h1, h2, h3, h4⟩, h5⟩ hsz
    have hkl : k < (Sx.chunks s.data.toList).length := (List.getElem?_eq_some_iff.1 hx).1
    have hk9 : ch.length + k < 20000 := by have := HLH.out; have := HLS.out; omega
    have hst : strs ch ++ strs ((Sx.chunks s.data.toList).take (k + 1)) = (strs ch ++ strs ((Sx.chunks s.data.toList).take k)) ++ [.string x] := by
      rw [List.take_add_one, hx]; simp [strs]
    have HST := Lib.hid hst
    generalize strs ch ++ strs ((Sx.chunks s.data.toList).take k) = xs at h2 HST
    clear hst
    have hc : W.cell? ⟨b5, 0, none⟩ = some v := h1.cell (k := 0) rfl
    have hf := h1.free 0
    have h5s := h5.size
    have hB5l := h1.lt
    rw [hs2] at hsz
    obtain ⟨iS, eS, zS, sS, bS⟩ := info_parts (show (Try.prog.info? 9).map (fun i => (i.zero, i.size, i.bytes)) = some (some (.string ⟨#[]⟩), 1, 16) by kernel_rfl)
    gi_wp2_with (gi_at_builtin; refine own_appendIn rfl _ _ 88 rfl 9 iS (.string ⟨#[]⟩) 1 16 Try.underlying88 eS zS sS bS rfl (by decide) w.heap.size (ch.length + k) _ _ rfl (h2.alloc _) (by simp; omega) ⟨W.heap.size, 0, none⟩ 1 1 [.string x] rfl rfl (one_new _ _ _) (by simp [Value.oneCell']) (by unfold maxLen; omega) (by omega) ?_; intro v' w1' hO' hg' hk'; obtain ⟨g2, cap2, rfl, hgb2, hgl2, hcp2, hcl2⟩ := hO'.form (by omega); have hB1 := (h1.alloc (Obj.cells #[Value.string x] 9)).grown hg' (fun e => (h4 _ e).1 rfl); have hc1 : w1'.cell? ⟨b5, 0, none⟩ = some v := hB1.cell (k := 0) rfl; have hf1 := hB1.free 0; clear hc hf)
    have hg2 : g2 ≠ b5 ∧ g2 ≠ b5 + 1 := by
      rcases hk' g2 rfl with h | h
      · exact h4 _ h
      · simp at h; omega
    have hgb : ∀ j o, W.heap[j]? = some o → j ≠ b5 → (∀ g, v.ownBlock = some g → g ≠ j) → (w1'.setCell ⟨b5, 0, none⟩ (.slice (some ⟨g2, 0, none⟩) (ch.length + k + 1) cap2)).heap[j]? = some o := fun j o hj hne hno => by
      have hlt : j < W.heap.size := (Array.getElem?_eq_some_iff.1 hj).1
      rw [Below.heap_setCell _ _ _ _ (by simpa using hne), hg'.block j (by simp; omega) (fun e => hno j e.symm rfl), Below.heap_alloc _ _ _ hlt]
      exact hj
    have hsz1 : W.heap.size ≤ w1'.heap.size := by have := hg'.size; simp at this; omega
    refine ⟨⟨⟨_, hB1.set 0 _, ?_, fun g hg => ?_⟩, ?_⟩, ?_, ?_⟩
    · rw [HST.out, ← Nat.add_assoc]
      exact hO'.other (fun k hk e => by
        have : g2 = k := by simpa [Value.ownBlock] using hk
        simp at e; omega) _
    · have : g2 = g := by simpa [Value.ownBlock] using hg
      omega
    · refine ⟨hg'.os.trans h5.os, hg'.tape.trans h5.tape, hg'.output.trans h5.output, by simp; omega, fun j hj => ?_⟩
      rw [hgb j _ (Array.getElem?_eq_getElem (by omega)) (by omega) (fun g hg e => by have := (h2.blk hg).1; omega), ← Array.getElem?_eq_getElem]
      exact h5.block j hj
    · first | exact hsz1 | (simp; exact hsz1)
    · intro j o hj hor
      refine hgb j o hj (fun e => ?_) (fun g hg e => ?_)
      · rw [e] at hj
        rcases hor with h | h
        · omega
        · have hx1 : W.heap[b5]? = _ := h1
          rw [hx1] at hj; cases hj; cases h
      · subst e
        rcases hor with h | h
        · exact (h4 _ hg).2 h
        · obtain ⟨cs, T, fr, hcs⟩ := h2.cellsOf h3 g hg
          rw [hcs] at hj; cases hj; cases h
  case done =>
    rintro D W hD ⟨⟨v, h1, h2, h3, h4⟩, h5⟩ hK
    rw [List.take_length] at h2
    have hcell : W.cell? ⟨b5, 0, none⟩ = some v := h1.cell (k := 0) rfl
    have hS0 : Below W.heap.size W W := Below.refl _ _
    go_wp2_with fail
    have hA : Below W.heap.size W W.drew := (Below.refl _ _).drew
    obtain ⟨iS, eS, zS, sS, bS⟩ := info_parts (show (Try.prog.info? 9).map (fun i => (i.zero, i.size, i.bytes)) = some (some (.string ⟨#[]⟩), 1, 16) by kernel_rfl)
    have h5s := h5.size
    have hn9 : ch.length + (Sx.chunks s.data.toList).length < 30000 := by have := HLH.out; have := HLS.out; omega
    generalize hxs : strs ch ++ strs (Sx.chunks s.data.toList) = xs at h2
    generalize hnn : ch.length + (Sx.chunks s.data.toList).length = nn at h2 h3 hn9
    have HXS := Lib.hid hxs
    have HNN := Lib.hid hnn
    clear hxs hnn
    obtain ⟨m1, hm1⟩ : ∃ m1, m1 = Sx.nums (UInt64.ofNat (8 * h.size)) := ⟨_, rfl⟩
    obtain ⟨m2, hm2⟩ : ∃ m2, m2 = Sx.nums (UInt64.ofNat (8 * s.size)) := ⟨_, rfl⟩
    have C1 := Lib.hid (fun w => bytes_len h.size hh w)
    have C2 := Lib.hid (fun w => bytes_len s.size hs w)
    have hn1 := nums_size (UInt64.ofNat (8 * h.size))
    have hn2 := nums_size (UInt64.ofNat (8 * s.size))
    rw [← hm1] at C1 hn1
    rw [← hm2] at C2 hn2
    have HM1 := Lib.hid hm1
    have HM2 := Lib.hid hm2
    clear hm1 hm2
    have hDk : ∀ k, v.ownBlock = some k → w.heap.size ≤ k ∧ b5 ≠ k ∧ D ≠ k := fun k hk => ⟨(h2.blk hk).1, fun e => (h4 k hk).1 e.symm, fun e => by
      obtain ⟨cs, T, fr, hcs⟩ := h2.cellsOf h3 k hk
      rw [← e, hK] at hcs; cases hcs⟩
    have hS : KeptD w ⟨b5, 0, none⟩ v D W := ⟨h5, hcell, hK⟩
    go_region_held3 (fun W' => Below w.heap.size w W' ∧ W'.cell? ⟨b5, 0, none⟩ = some v ∧ W'.heap[D]? = some (.deferred (some [])))
      (first | assumption | exact keptD hS (Below.refl _ _).drew | exact keptD (by assumption) hk | exact keptD (by assumption) ((Below.refl _ _).alloc (Nat.le_refl _) _) | exact keptD_grown (by assumption) hg' hDk)
      ((first | (go_at_call 149; (first | (with_reducible refine (C1.out _).mono ?_) | (with_reducible refine (C2.out _).mono ?_)); rintro e w1 ⟨rfl, hk⟩; replace hA := Below.callee hA hk) | (refine own_step rfl _ _ 88 rfl 9 iS (.string ⟨#[]⟩) 1 16 Try.underlying88 eS zS sS bS rfl (by decide) w.heap.size nn v xs rfl ((h2.below hA).alloc _) (by have := hA.size; simp; omega) ⟨w1.heap.size, 0, none⟩ 1 1 [.string _] rfl rfl (one_new _ _ _) (by simp [Value.oneCell']) (by unfold maxLen; omega) (by omega) ?_; intro v' w2 hO' hg' hk' hkp)))
    have hS2 : KeptD w ⟨b5, 0, none⟩ v D w2 := by assumption
    have hfin : strs (Sx.blocks h.data.toList s.data.toList) = xs ++ [.string (⟨m1.toArray⟩ ++ ⟨m2.toArray⟩)] := by
      rw [Sx.blocks, HCH.out, ← HXS.out, str_add, HM1.out, HM2.out, Sx.sizes, show s.data.toList.length = s.size by simp, show h.data.toList.length = h.size by simp]
      simp [strs]
    have hlen : (Sx.blocks h.data.toList s.data.toList).length = nn + 1 := by
      rw [Sx.blocks, HCH.out, ← HNN.out, List.length_append, List.length_append]; rfl
    have HF := Lib.hid hfin
    have HL := Lib.hid hlen
    clear hfin hlen
    go_wp2_with fail
    have hO9 : Own (w2.putObj D (.deferred none)) w.heap.size 1 v' (nn + 1) (xs ++ [.string (⟨m1.toArray⟩ ++ ⟨m2.toArray⟩)]) :=
      (KB.of_put (B := D) hS2.2.2 rfl (Nat.le_refl _)).own hO' (hO'.cellsOf (fun e => by omega))
    rw [← HF.out, ← HL.out] at hO9
    refine ⟨by simp, .inl ⟨_, _, rfl, run_takeDeferred hS2.2.2, ?_⟩⟩
    exact ⟨_, results_tmp rfl _ _ _, v', rfl, hO9, (KB.of_put (B := w.heap.size) hS2.2.2 rfl (by omega)).below rfl hS2.1⟩
end Go.Proofs.Ytieooonobjkglaa
