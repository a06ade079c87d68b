/- The contracts of GHASH's blocks: filled's iterator. No condition on the world. -/
import Derived.Test.YtieooonobjkglaaQGhA
import Derived.Test.YtieooonobjkglaaQSeq
import Derived.Test.YtieooonobjkglaaShelf
import Derived.Shelf.Abstract
import Derived.Shelf.RegionOpen
import Derived.WalkKit
import Derived.OwnWalkIn
import Derived.TacticsInMore
import Derived.LoopNIn
import Derived.LoopIn
namespace Go.Proofs.Ytieooonobjkglaa
open Go Go.Proofs Go.RowKit Go.Shelf SW
set_option maxRecDepth 20000
set_option maxHeartbeats 4000000
attribute [local go_sem] Oper.semAt_some

/-- A text's k-th block, filled. -/
def Sx.chunk (s : List UInt8) (k : Nat) : List UInt8 := (s.drop (16 * k)).take 16 ++ List.replicate (16 - ((s.drop (16 * k)).take 16).length) 0
def Sx.chunks (s : List UInt8) : List ByteArray := (List.range ((s.length + 15) / 16)).map fun k => ⟨(Sx.chunk s k).toArray⟩
theorem ext_end (s : ByteArray) (a : Nat) : (s.extract a s.size).data.toList = s.data.toList.drop a := by
  simp [ByteArray.data_extract]
  apply List.take_of_length_le
  have : s.data.size = s.size := rfl
  simp [this]
theorem ext_upto (s : ByteArray) (k : Nat) : (s.extract 0 k).data.toList = s.data.toList.take k := by simp [ByteArray.data_extract]
def leftIn (W : World) (b : Nat) : Nat := match W.cell? ⟨b, 0, none⟩ with | some (.string t) => t.size | _ => 0

theorem leftIn_blk {W : World} {b : Nat} {t : ByteArray} {T : TypeId} (h : Blk W b #[.string t] T) : leftIn W b = t.size := by
  unfold leftIn
  rw [show W.cell? ⟨b, 0, none⟩ = some (.string t) from h.cell (k := 0) rfl]

theorem filled1 (s : ByteArray) (hs : s.size ≤ 100000) (n : Nat) (hn : 1 ≤ n) (Bn : Nat) :
    Rounds n Try.prog 173 #[.pointer (some ⟨Bn, 0, none⟩)] (fun x : ByteArray => #[.string x]) (Sx.chunks s.data.toList) Bn (.cells #[.string s] 9 (0, 0)) := by
  intro l J W hB hJb hJs hY h0
  refine callsIn_of_wp Try.func173 rfl trivial ?_ rfl
  simp only [Try.ntmps173, List.size_toArray, List.length_cons, List.length_nil, Nat.reduceAdd, Nat.reduceSub, Array.replicate_succ, Array.replicate_zero, List.push_toArray, List.append_toArray, List.nil_append, List.cons_append]
  gi_wp2
  gi_loopw [3] (fun _ wr => ∃ k : Nat, k ≤ (s.size + 15) / 16 ∧ Blk wr Bn #[.string (s.extract (16 * k) s.size)] 9 ∧ J k wr) (fun _ wr => leftIn wr Bn)
  case atStart =>
    exact ⟨0, by omega, by rw [show s.extract (16 * 0) s.size = s by simp]; exact hB, h0⟩
  case round =>
    clear hB h0
    obtain ⟨k, hk, hB, hJ⟩ := hrel
    have hts : (s.extract (16 * k) s.size).size = s.size - 16 * k := by simp
    by_cases hlt : 16 * k < s.size
    · have hkm : k < (s.size + 15) / 16 := by omega
      have hrest : (s.extract (16 * k) s.size).extract (min (s.size - 16 * k) 16) (s.size - 16 * k) = s.extract (16 * (k + 1)) s.size := by
        rw [ByteArray.extract_extract]
        by_cases h : s.size - 16 * k < 16
        · rw [Nat.min_eq_left (by omega)]
          apply ByteArray.ext
          simp only [ByteArray.data_extract]
          rw [Array.extract_empty_of_stop_le_start (by omega), Array.extract_empty_of_stop_le_start (by omega)]
        · rw [Nat.min_eq_right (by omega), Nat.min_eq_right (by omega)]
          rfl
      have hxk : (Sx.chunks s.data.toList)[k]? = some ((s.extract (16 * k) s.size).extract 0 (min (s.size - 16 * k) 16) ++ ⟨(Lib.repeatL [0] (16 - min (s.size - 16 * k) 16)).toArray⟩) := by
        have hl : s.data.toList.length = s.size := by simp
        unfold Sx.chunks
        rw [hl, List.getElem?_map, List.getElem?_range hkm, Option.map_some]
        congr 1
        apply ByteArray.ext
        apply Array.toList_inj.1
        simp only [ByteArray.data_append, Array.toList_append, ext_upto, ext_end, Sx.chunk]
        have hlen : ((s.data.toList.drop (16 * k)).take 16).length = min (s.size - 16 * k) 16 := by simp [hl]; omega
        rw [hlen, show ([0] : List UInt8) = List.replicate 1 0 from rfl, Lib.repeatL_replicate, Nat.mul_one]
        congr 1
        rw [List.take_eq_take_iff]
        simp [hl]
        omega
      have hz : (s.extract (16 * k) s.size).size = s.size - 16 * k := hts
      generalize hr : s.extract (16 * (k + 1)) s.size = r at hrest
      have HR := Lib.hid hr
      clear hts hr
      generalize s.extract (16 * k) s.size = t at hz hB hrest hxk
      generalize hzz : s.size - 16 * k = z at hz hrest hxk
      have hz0 : 0 < z := by omega
      have hz1 : z ≤ 100000 := by omega
      obtain ⟨c, hcd⟩ : ∃ c, c = min z 16 := ⟨_, rfl⟩
      rw [← hcd] at hrest hxk
      have hc0 : 0 < c := by omega
      have hc1 : c ≤ 16 := by omega
      have hc2 : c ≤ z := by omega
      have hmin : min (z : Int) 16 = (c : Int) := by omega
      have hne : t.toList.isEmpty = false := by
        rw [ByteArray.toList_eq]
        cases h : t.data.toList with
        | nil => have : t.data.toList.length = t.size := by simp
                 rw [h] at this; simp at this; omega
        | cons _ _ => rfl
      have hbs : (t.extract 0 c).size = c := by simp; omega
      have hsl1 : ∀ W, (Instr.slice 9 (.string t) none (some (.int .i64 (c : Int))) none).run Try.prog W = .ok (.string (t.extract 0 c)) W := fun W => by
        rw [run_slice_string_h (ht := Try.underlying9) (h0 := by omega) (h2 := by omega)]
        rfl
      have hsl2 : ∀ W, (Instr.slice 9 (.string t) (some (.int .i64 (c : Int))) none none).run Try.prog W = .ok (.string r) W := fun W => by
        rw [run_slice_string_l (ht := Try.underlying9) (h0 := by omega) (h1 := by omega), ← hrest, hz]
        rfl
      generalize t.extract 0 c = b at hbs hsl1 hxk
      have hrs : (⟨(Lib.repeatL [0] (16 - c)).toArray⟩ : ByteArray).size = 16 - c := by
        simp [ByteArray.size, Lib.repeatL_length]
      have hw : IntKind.i64.wrap (16 - (c : Int)) = ((16 - c : Nat) : Int) := by rw [IntWalk.i64_in _ (by omega)]; omega
      generalize hq : 16 - c = q at hrs hxk hw
      have hq1 : q ≤ 16 := by omega
      have hcl : wr.cell? ⟨Bn, 0, none⟩ = some (.string t) := hB.cell (k := 0) rfl
      have HZ := Lib.hid hzz
      clear hrest hzz hcd hlt
      gi_wp2_with (refine ⟨trivial, ?_⟩; gi_at_call 16; refine (callsIn_wide.2 (Try.strings_Repeat ⟨#[0]⟩ q wr (by omega) (by simp [ByteArray.size]; omega))).mono ?_; rintro e w1 ⟨rfl, hk1⟩; have hJ1 := hJb _ _ _ hJ hk1; have hB1 := hB.callee hk1; obtain ⟨fn, tmps, assign, body, hy, hR⟩ := hY k _ w1 hxk hJ1; (try dsimp only at hy); clear hY hJb hJ hk1)
      refine hR.mono ?_
      rintro e w3 ⟨rfl, hJ3, hB3⟩
      replace hB3 : Blk w3 Bn #[.string t] 9 := hB3 _ hB1
      have hc3 : w3.cell? ⟨Bn, 0, none⟩ = some (.string t) := hB3.cell (k := 0) rfl
      have hf3 := hB3.free 0
      gi_wp2
      go_roundw
      case rel => exact ⟨k + 1, by omega, by rw [HR.out]; exact hB3.set 0 _, hJs _ _ _ hJ3⟩
      case measure =>
        rw [leftIn_blk (hB3.set 0 (.string r)), leftIn_blk hB]
        have h1 := HR.out
        have h2 := HZ.out
        rw [← h1, hz]
        simp
        omega
    · have hex : s.extract (16 * k) s.size = ⟨#[]⟩ := by
        apply ByteArray.ext
        simp only [ByteArray.data_extract]
        rw [Array.extract_empty_of_stop_le_start (by omega)]
      rw [hex] at hB
      have hcl : wr.cell? ⟨Bn, 0, none⟩ = some (.string ⟨#[]⟩) := hB.cell (k := 0) rfl
      have hne : (ByteArray.toList ⟨#[]⟩).isEmpty = true := by rw [ByteArray.toList_eq]; rfl
      gi_wp2
      go_end0
      refine ⟨⟨_, rfl⟩, ?_⟩
      have hkk : (Sx.chunks s.data.toList).length = k := by simp [Sx.chunks]; omega
      rw [hkk]; exact hJ
end Go.Proofs.Ytieooonobjkglaa
namespace Go.Proofs.Ytieooonobjkglaa
open Go Go.Proofs Go.RowKit Go.Shelf SW
set_option maxRecDepth 20000
set_option maxHeartbeats 4000000
attribute [local go_sem] Oper.semAt_some

/-- The append law of XOwn in a walk within a fence. -/
theorem own_appendIn {F : Fence} {fu : Nat} {P : Program} {w : World} {ops : Array Oper} {rest : List Oper} {o : Oper} {a : Act} {Q : Exit → Act → World → Prop}
    (hg : o.guard = none) (s x : Operand) (t : TypeId) (hop : o.op = Op.call { callee := Callee.builtin Builtin.append, args := #[s, x], argTypes := #[t, t] })
    (e : TypeId) (i : TypeInfo) (z : Value) (size bytes : Nat) (h1 : P.underlying t = some (.slice e)) (h2 : P.info? e = some i) (h3 : i.zero = some z) (h4 : i.size = size) (h5 : i.bytes = bytes) (h6 : z.cells.size = size) (h7 : 0 < size)
    (base n : Nat) (v : Value) (xs : List Value) (hs : a.eval s = v) (hv : Own w base size v n xs) (hbase : base ≤ w.heap.size)
    (ad : Addr) (m c : Nat) (news : List Value) (hx : a.eval x = .slice (some ad) m c) (hn : news.length = m * size) (hc : ∀ j u, news[j]? = some u → w.cell? (ad.add j) = some u) (h1c : ∀ u ∈ news, u.oneCell' = true)
    (b1 : n + m ≤ maxLen) (b2 : (n + m) * bytes ≤ 140737488355328)
    (hK : ∀ v' w', Own w' base size v' (n + m) (xs ++ news) → w.grownBy w' v.ownBlock → (∀ k, v'.ownBlock = some k → v.ownBlock = some k ∨ w.heap.size ≤ k) → wpListIn F fu P ops Q rest (a.put o.dst v') w') :
    wpListIn F fu P ops Q (o :: rest) a w := by
  refine wpListIn_plain hg fun K hK' => ?_
  obtain ⟨v', w', hrun, r1, r2, r3, _⟩ := run_own_append (P := P) t o.type e i z size bytes h1 h2 h3 h4 h5 h6 h7 base n v xs hv hbase ad m c news hn hc h1c b1 b2
  unfold Oper.wpIn
  refine ⟨?_, ?_⟩
  · simp [Oper.about, hop, resolve, Target.leads, Sem.run_pure]
  · rw [Oper.semAt_plain F _ _ (by rw [hop]; intro c hc'; cases hc')]
    simp [execOp, hop, resolve, invoke, builtin, hs, hx, hrun, Result.andThen]
    exact hK' _ _ (hK v' w' r1 r2 r3)

/-- As 'Below', but for one block. -/
structure BelowBut (w : World) (Bn : Nat) (w' : World) : Prop where
  os : w'.os = w.os
  tape : w'.tape = w.tape
  output : w'.output = w.output
  size : w.heap.size ≤ w'.heap.size
  low : ∀ j : Nat, j < w.heap.size → j ≠ Bn → w'.heap[j]? = w.heap[j]?
def strs (l : List ByteArray) : List Value := l.map .string

theorem cells_of_cell {W : World} {g j : Nat} {u : Value} (h : W.cell? ⟨g, j, none⟩ = some u) : ∃ cs T fr, W.heap[g]? = some (Obj.cells cs T fr) := by
  unfold World.cell? at h
  split at h
  · exact ⟨_, _, _, by assumption⟩
  · cases h
theorem Own.cellsOf {W : World} {base n : Nat} {v : Value} {xs : List Value} (h : Own W base 1 v n xs) (h0 : n = 0 → v = .slice none 0 0) : ∀ g, v.ownBlock = some g → ∃ cs T fr, W.heap[g]? = some (Obj.cells cs T fr) := fun g hg => by
  by_cases hn : n = 0
  · rw [h0 hn] at hg
    simp [Value.ownBlock] at hg
  · obtain ⟨g', cap, rfl, _, _, _, hc⟩ := h.form (by omega)
    have e : g' = g := by simpa [Value.ownBlock] using hg
    subst e
    have hl : 0 < xs.length := by rw [h.1]; omega
    exact cells_of_cell (hc 0 _ (List.getElem?_eq_getElem hl))
theorem BelowBut.kb {w W W' : World} {Bn B : Nat} (h : BelowBut w Bn W) (k : KB B W W') (hB : w.heap.size ≤ B) : BelowBut w Bn W' :=
  ⟨k.os.trans h.os, k.tape.trans h.tape, k.output.trans h.output, Nat.le_trans h.size k.size, fun j hj hn => (k.low j (by omega)).trans (h.low j hj hn)⟩
theorem BelowBut.set {w W : World} {Bn : Nat} (h : BelowBut w Bn W) (v : Value) : BelowBut w Bn (W.setCell ⟨Bn, 0, none⟩ v) :=
  ⟨h.os, h.tape, h.output, by simpa using h.size, fun j hj hn => (Below.heap_setCell _ _ _ _ (by simpa using hn)).trans (h.low j hj hn)⟩

theorem appendSeq_any (s : ByteArray) (hs : s.size ≤ 100000) (Bn : Nat) (w : World) (hBn : Blk w Bn #[.string s] 9) :
    Calls Try.prog 172 #[.slice none 0 0, .func (.func 173) #[] #[.pointer (some ⟨Bn, 0, none⟩)]] w fun e w' =>
      ∃ v, e = .returned v ∧ Own w' w.heap.size 1 v (Sx.chunks s.data.toList).length (strs (Sx.chunks s.data.toList)) ∧ BelowBut w Bn w' ∧ ((Sx.chunks s.data.toList).length = 0 → v = .slice none 0 0) := by
  refine (callsIn_wide (n := 3)).1 ?_
  refine callsIn_of_wp_marks Try.func172 rfl trivial ?_ rfl
  simp only [Try.ntmps172, List.size_toArray, List.length_cons, List.length_nil, Nat.reduceAdd, Nat.reduceSub, Array.replicate_succ, Array.replicate_zero, List.push_toArray, List.append_toArray, List.nil_append, List.cons_append]
  gi_wp2
  have hbl := hBn.lt
  refine range_law (by omega) (gf := 173) (lb := #[.pointer (some ⟨Bn, 0, none⟩)]) rfl (enters_of Try.func173 (by kernel_rfl) rfl) (filled1 s hs 2 (by omega) Bn) (hBn.alloc _) (fun _ => rfl)
    (fun k W => (∃ v, Blk W w.heap.size #[v] 88 ∧ Own W w.heap.size 1 v k (strs ((Sx.chunks s.data.toList).take k)) ∧ (k = 0 → v = .slice none 0 0) ∧ (∀ g, v.ownBlock = some g → g ≠ w.heap.size)) ∧ BelowBut w Bn W)
    ?hI ?hIs ?h0 (fun x => { tmps := #[.slice none 0 0, .func (.func 173) #[] #[.pointer (some ⟨Bn, 0, none⟩)], .pointer (some ⟨w.heap.size, 0, none⟩), undef, .slice none 0 0, .string x, .func (.func 173) #[] #[.pointer (some ⟨Bn, 0, none⟩)], .string x, undef, undef, undef, undef, undef], defers := [] }) ?assign ?body ?done
  case hI =>
    rintro k A A' ⟨⟨v, h1, h2, h3, h4⟩, h5⟩ hk
    exact ⟨⟨v, hk.blk h1, hk.own h2 (h2.cellsOf h3), h3, h4⟩, h5.kb hk (by simp)⟩
  case hIs =>
    rintro k A u ⟨⟨v, h1, h2, h3, h4⟩, h5⟩
    exact ⟨⟨v, h1.other (by simp; omega) _, h2.other (fun k hk e => by have := (h2.blk hk).1; simp at e; omega) _, h3, h4⟩, h5.set _⟩
  case h0 =>
    exact ⟨⟨_, Blk.new _ _ _, Own.nil _ _ _, fun _ => rfl, fun g hg => by simp [Value.ownBlock] at hg⟩, ⟨rfl, rfl, rfl, by simp, fun j hj _ => Below.heap_alloc _ _ _ hj⟩⟩
  case assign =>
    intro l x W K hK
    gi_wp2
    exact hK
  case body =>
    rintro l k x W hx ⟨⟨v, h1, h2, h3, h4⟩, h5⟩ hsz
    have hlen : (Sx.chunks s.data.toList).length = (s.size + 15) / 16 := by simp [Sx.chunks]
    have hkl : k < (Sx.chunks s.data.toList).length := (List.getElem?_eq_some_iff.1 hx).1
    have hk9 : k < 10000 := by omega
    have hst : strs ((Sx.chunks s.data.toList).take (k + 1)) = strs ((Sx.chunks s.data.toList).take k) ++ [.string x] := by
      rw [List.take_add_one, hx]; simp [strs]
    have HST := Lib.hid hst
    generalize strs ((Sx.chunks s.data.toList).take k) = xs at h2 HST
    clear hst hlen
    have hc : W.cell? ⟨w.heap.size, 0, none⟩ = some v := h1.cell (k := 0) rfl
    have hf := h1.free 0
    obtain ⟨iS, eS, zS, sS, bS⟩ := info_parts (show (Try.prog.info? 9).map (fun i => (i.zero, i.size, i.bytes)) = some (some (.string ⟨#[]⟩), 1, 16) by kernel_rfl)
    gi_wp2_with (gi_at_builtin; refine own_appendIn rfl _ _ 88 rfl 9 iS (.string ⟨#[]⟩) 1 16 Try.underlying88 eS zS sS bS rfl (by decide) w.heap.size k _ _ rfl (h2.alloc _) (by have := h5.size; simp; omega) ⟨W.heap.size, 0, none⟩ 1 1 [.string x] rfl rfl (one_new _ _ _) (by simp [Value.oneCell']) (by unfold maxLen; omega) (by omega) ?_; intro v' w1 hO' hg' hk'; obtain ⟨g2, cap2, rfl, hgb2, hgl2, hcp2, hcl2⟩ := hO'.form (by omega); have hB1 := (h1.alloc (Obj.cells #[Value.string x] 9)).grown hg' (fun e => h4 _ e rfl); have hc1 : w1.cell? ⟨w.heap.size, 0, none⟩ = some v := hB1.cell (k := 0) rfl; have hf1 := hB1.free 0; clear hc hf)
    have hg2 : g2 ≠ w.heap.size := fun e => by
      rcases hk' g2 rfl with h | h
      · exact h4 _ h e
      · have := h1.lt
        simp at h; omega
    have hgb : ∀ j o, W.heap[j]? = some o → j ≠ w.heap.size → (∀ g, v.ownBlock = some g → g ≠ j) → (w1.setCell ⟨w.heap.size, 0, none⟩ (.slice (some ⟨g2, 0, none⟩) (k + 1) cap2)).heap[j]? = some o := fun j o hj hne hno => by
      have hlt : j < W.heap.size := (Array.getElem?_eq_some_iff.1 hj).1
      rw [Below.heap_setCell _ _ _ _ (by simpa using hne), hg'.block j (by simp; omega) (fun e => hno j e.symm rfl), Below.heap_alloc _ _ _ hlt]
      exact hj
    have hsz1 : W.heap.size ≤ w1.heap.size := by have := hg'.size; simp at this; omega
    refine ⟨⟨⟨_, hB1.set 0 _, ?_, fun g hg => ?_⟩, ?_⟩, ?_, ?_⟩
    · rw [HST.out]
      exact hO'.other (fun k hk e => by
        have : g2 = k := by simpa [Value.ownBlock] using hk
        simp at e; omega) _
    · have : g2 = g := by simpa [Value.ownBlock] using hg
      omega
    · refine ⟨hg'.os.trans h5.os, hg'.tape.trans h5.tape, hg'.output.trans h5.output, by have := h5.size; simp; omega, fun j hj hn => ?_⟩
      have hjW : j < W.heap.size := by have := h5.size; omega
      rw [hgb j _ (Array.getElem?_eq_getElem hjW) (by omega) (fun g hg e => by have := (h2.blk hg).1; omega), ← Array.getElem?_eq_getElem hjW]
      exact h5.low j hj hn
    · first | exact hsz1 | (simp; exact hsz1)
    · intro j o hj hor
      refine hgb j o hj (fun e => ?_) (fun g hg e => ?_)
      · subst e
        rcases hor with h | h
        · omega
        · have hx1 : W.heap[w.heap.size]? = _ := h1
          rw [hx1] at hj; cases hj; cases h
      · subst e
        rcases hor with h | h
        · have := (h2.blk hg).1; omega
        · obtain ⟨cs, T, fr, hcs⟩ := h2.cellsOf h3 g hg
          rw [hcs] at hj; cases hj; cases h
  case done =>
    rintro D W hD ⟨⟨v, h1, h2, h3, h4⟩, h5⟩ hK
    have hc : W.cell? ⟨w.heap.size, 0, none⟩ = some v := h1.cell (k := 0) rfl
    gi_wp2
    refine ⟨by simp, .inl ⟨_, _, rfl, run_takeDeferred hK, ?_⟩⟩
    refine ⟨_, results_tmp rfl _ _ _, v, rfl, ?_, ?_, h3⟩
    · have hkb : KB D W (W.putObj D (.deferred none)) := KB.of_put hK rfl (Nat.le_refl _)
      have := hkb.own h2 (h2.cellsOf h3)
      rwa [List.take_length] at this
    · exact h5.kb (KB.of_put (B := D) hK rfl (Nat.le_refl _)) (by simp at hD; omega)
end Go.Proofs.Ytieooonobjkglaa
namespace Go.Proofs.Ytieooonobjkglaa
open Go Go.Proofs Go.RowKit Go.Shelf SW
set_option maxRecDepth 20000
set_option maxHeartbeats 4000000

theorem collect_any (s : ByteArray) (hs : s.size ≤ 100000) (Bn : Nat) (w : World) (hBn : Blk w Bn #[.string s] 9) :
    Calls Try.prog 147 #[.func (.func 173) #[] #[.pointer (some ⟨Bn, 0, none⟩)]] w fun e w' =>
      ∃ v, e = .returned v ∧ Own w' w.heap.size 1 v (Sx.chunks s.data.toList).length (strs (Sx.chunks s.data.toList)) ∧ BelowBut w Bn w' ∧ ((Sx.chunks s.data.toList).length = 0 → v = .slice none 0 0) := by
  go_enter Try.func147, Try.ntmps147
  go_wp2_with (go_at_call 172; refine (appendSeq_any s hs Bn w hBn).mono ?_; rintro e w1 ⟨v, rfl, h1, h2, h3⟩)
  go_ret
  exact ⟨v, rfl, h1, h2, h3⟩

theorem filled_any (s : ByteArray) (w : World) : Calls Try.prog 148 #[.string s] w fun e w' =>
    e = .returned (.func (.func 173) #[] #[.pointer (some ⟨w.heap.size, 0, none⟩)]) ∧ w' = w.alloc (.cells #[.string s] 9) := by
  go_enter Try.func148, Try.ntmps148
  go_wp2
  go_ret
  exact ⟨rfl, rfl⟩
end Go.Proofs.Ytieooonobjkglaa
namespace Go.Proofs.Ytieooonobjkglaa
open Go Go.Proofs Go.RowKit Go.Shelf SW
set_option maxRecDepth 20000
set_option maxHeartbeats 4000000
attribute [local go_sem] Oper.semAt_some

theorem Own.base {w : World} {base base' size n : Nat} {v : Value} {xs : List Value} (h : Own w base size v n xs) (hb : base' ≤ base) : Own w base' size v n xs := by
  refine ⟨h.1, ?_⟩
  rcases h.2 with h2 | ⟨g, cap, h3, h4, h5⟩
  · exact .inl h2
  · exact .inr ⟨g, cap, h3, by omega, h5⟩
theorem Own.isSlice {w : World} {base size n : Nat} {v : Value} {xs : List Value} (h : Own w base size v n xs) : ∃ b c, v = .slice b n c := by
  rcases h.2 with ⟨rfl, rfl⟩ | ⟨g, cap, rfl, _⟩
  · exact ⟨_, _, rfl⟩
  · exact ⟨_, _, rfl⟩
abbrev KeptD (w : World) (a : Addr) (v : Value) (D : Nat) (W : World) : Prop := Below w.heap.size w W ∧ W.cell? a = some v ∧ W.heap[D]? = some (.deferred (some []))
theorem keptD {w : World} {a : Addr} {v : Value} {D : Nat} {W1 W2 : World} (h : KeptD w a v D W1) (hk : Below W1.heap.size W1 W2) : KeptD w a v D W2 :=
  ⟨Below.callee h.1 hk, (hk.cell (World.block_lt_of_cell? _ _ h.2.1)).trans h.2.1, (hk.block _ (Array.getElem?_eq_some_iff.1 h.2.2).1).trans h.2.2⟩
theorem keptD_grown {w : World} {a : Addr} {v u : Value} {D : Nat} {W1 W2 : World} (h : KeptD w a v D W1) (hg : W1.grownBy W2 u.ownBlock) (hb : ∀ k, u.ownBlock = some k → w.heap.size ≤ k ∧ a.block ≠ k ∧ D ≠ k) : KeptD w a v D W2 :=
  ⟨h.1.grown hg h.1.size (fun k hk => (hb k hk).1), (World.cell?_of_block (hg.block a.block (World.block_lt_of_cell? _ _ h.2.1) (fun e => (hb _ e.symm).2.1 rfl))).trans h.2.1,
    (hg.block _ (Array.getElem?_eq_some_iff.1 h.2.2).1 (fun e => (hb _ e.symm).2.2 rfl)).trans h.2.2⟩
theorem U64_len (n : Nat) (h : n ≤ 100000) : IntKind.u64.wrap (IntKind.u64.wrap (n : Int) * 8) = U64 (UInt64.ofNat (8 * n)) := by
  have e1 : IntKind.u64.wrap (n : Int) = n := by
    simp only [IntKind.wrap, IntKind.bits, IntKind.signed]
    simp
    omega
  rw [e1]
  unfold U64
  simp only [IntKind.wrap, IntKind.bits, IntKind.signed]
  simp [UInt64.toNat_ofNat']
  omega
/-- A text's two sizes. -/
def Sx.sizes (h s : List UInt8) : List UInt8 := Sx.nums (UInt64.ofNat (8 * h.length)) ++ Sx.nums (UInt64.ofNat (8 * s.length))
/-- The texts' blocks, and their sizes. -/
def Sx.blocks (h s : List UInt8) : List ByteArray := Sx.chunks h ++ Sx.chunks s ++ [⟨(Sx.sizes h s).toArray⟩]
theorem bytes_len (n : Nat) (h : n ≤ 100000) (w : World) : Calls Try.prog 149 #[.int .u64 (IntKind.u64.wrap (IntKind.u64.wrap (n : Int) * 8))] w fun e w' => e = .returned (.string ⟨(Sx.nums (UInt64.ofNat (8 * n))).toArray⟩) ∧ Below w.heap.size w w' := by
  rw [U64_len n h]
  exact bytes_any _ w
theorem blocks_any (h s : ByteArray) (hh : h.size ≤ 100000) (hs : s.size ≤ 100000) (w : World) :
    Calls Try.prog 113 #[.string h, .string s] w fun e w' =>
      ∃ v, e = .returned v ∧ Own w' w.heap.size 1 v (Sx.blocks h.data.toList s.data.toList).length (strs (Sx.blocks h.data.toList s.data.toList)) ∧ Below w.heap.size w w' := by
  refine (callsIn_wide (n := 3)).1 ?_
  refine callsIn_of_wp_marks Try.func113 rfl trivial ?_ rfl
  simp only [Try.ntmps113, List.size_toArray, List.length_cons, List.length_nil, Nat.reduceAdd, Nat.reduceSub, Array.replicate_succ, Array.replicate_zero, List.push_toArray, List.append_toArray, List.nil_append, List.cons_append]
  refine wpIn_wide.2 ?_
  go_wp2_with (first
    | (go_at_call 148; refine (filled_any _ _).mono ?_; rintro e w1 ⟨rfl, rfl⟩)
    | (go_at_call 147; refine (collect_any h hh w.heap.size _ (Blk.new _ _ _)).mono ?_; rintro e w1 ⟨v1, rfl, hO1, hX1, hN1⟩; obtain ⟨bb, cc, rfl⟩ := hO1.isSlice))
  have hlh : (Sx.chunks h.data.toList).length = (h.size + 15) / 16 := by simp [Sx.chunks]
  have hls : (Sx.chunks s.data.toList).length = (s.size + 15) / 16 := by simp [Sx.chunks]
  generalize hch : Sx.chunks h.data.toList = ch at hO1 hN1 hlh
  have HCH := Lib.hid hch
  clear hch
  have HLH := Lib.hid hlh
  have HLS := Lib.hid hls
  clear hlh hls
  have hW1 : Below w.heap.size w w1 := ⟨hX1.os, hX1.tape, hX1.output, by have := hX1.size; simp at this; omega, fun j hj => (hX1.low j (by simp; omega) (by omega)).trans (Below.heap_alloc _ _ _ hj)⟩
  have hO1 : Own w1 w.heap.size 1 (.slice bb ch.length cc) ch.length (strs ch) := hO1.base (by simp)
  have hN9 : ∀ g, (Value.slice bb ch.length cc).ownBlock = some g → g < w1.heap.size := fun g hg => (hO1.blk hg).2
  have hB5 : Blk ((w1.alloc (Obj.cells #[Value.slice bb ch.length cc] 88)).alloc (Obj.cells #[Value.string s] 9)) w1.heap.size #[Value.slice bb ch.length cc] 88 := (Blk.new _ _ _).alloc _
  have hB6 : Blk ((w1.alloc (Obj.cells #[Value.slice bb ch.length cc] 88)).alloc (Obj.cells #[Value.string s] 9)) (w1.heap.size + 1) #[Value.string s] 9 := Blk.new' _ _ _ (by simp)
  have hO2 : Own ((w1.alloc (Obj.cells #[Value.slice bb ch.length cc] 88)).alloc (Obj.cells #[Value.string s] 9)) w.heap.size 1 (.slice bb ch.length cc) ch.length (strs ch) := (hO1.alloc _).alloc _
  have hW2 : Below w.heap.size w ((w1.alloc (Obj.cells #[Value.slice bb ch.length cc] 88)).alloc (Obj.cells #[Value.string s] 9)) := (hW1.alloc hW1.size _).alloc (by have := hW1.size; simp; omega) _
  have hs2 : ((w1.alloc (Obj.cells #[Value.slice bb ch.length cc] 88)).alloc (Obj.cells #[Value.string s] 9)).heap.size = w1.heap.size + 2 := by simp
  have hww := hW1.size
  obtain ⟨b5, hb5⟩ : ∃ b5, b5 = w1.heap.size := ⟨_, rfl⟩
  rw [← hb5] at hB5 hB6 hs2 hww hN9 ⊢
  generalize ((w1.alloc (Obj.cells #[Value.slice bb ch.length cc] 88)).alloc (Obj.cells #[Value.string s] 9)) = W2 at hB5 hB6 hO2 hW2 hs2 ⊢
  clear hO1 hW1 hX1 hb5
  refine wpIn_wide.1 (range_law (n := 3) (by omega) (gf := 173) (lb := #[.pointer (some ⟨b5 + 1, 0, none⟩)]) rfl (enters_of Try.func173 (by kernel_rfl) rfl) (filled1 s hs 2 (by omega) (b5 + 1)) hB6 (fun _ => rfl)
    (fun k W => (∃ v, Blk W b5 #[v] 88 ∧ Own W w.heap.size 1 v (ch.length + k) (strs ch ++ strs ((Sx.chunks s.data.toList).take k)) ∧ (ch.length + k = 0 → v = .slice none 0 0) ∧ (∀ g, v.ownBlock = some g → g ≠ b5 ∧ g ≠ b5 + 1)) ∧ Below w.heap.size w W)
    ?hI ?hIs ?h0 (fun x => { tmps := #[.string h, .string s, undef, undef, .slice none 0 0, .pointer (some ⟨b5, 0, none⟩), .string x, .string h, .func (.func 173) #[] #[.pointer (some ⟨w.heap.size, 0, none⟩)], .slice bb ch.length cc, .string s, .func (.func 173) #[] #[.pointer (some ⟨b5 + 1, 0, none⟩)], .string x, undef, undef, undef, undef, undef, undef, undef, undef, undef, undef, undef, undef, undef, undef, undef, undef, undef, undef], defers := [] }) ?assign ?body ?done)
  case hI =>
    rintro k A A' ⟨⟨v, h1, h2, h3, h4⟩, h5⟩ hk
    exact ⟨⟨v, hk.blk h1, hk.own h2 (h2.cellsOf h3), h3, h4⟩, ⟨hk.os.trans h5.os, hk.tape.trans h5.tape, hk.output.trans h5.output, Nat.le_trans h5.size hk.size, fun j hj => (hk.low j (by omega)).trans (h5.block j hj)⟩⟩
  case hIs =>
    rintro k A u ⟨⟨v, h1, h2, h3, h4⟩, h5⟩
    exact ⟨⟨v, h1.other (by simp) _, h2.other (fun k hk e => (h4 k hk).2 (by simp at e; omega)) _, h3, h4⟩, h5.setCell (by simp; omega) _⟩
  case h0 =>
    exact ⟨⟨_, hB5, by simpa [strs] using hO2, fun e => hN1 (by omega), fun g hg => by have := hN9 g hg; omega⟩, hW2⟩
  case assign =>
    intro l x W K hK
    gi_wp2
    exact hK
  case body =>
    rintro l k x W hx ⟨⟨v, h1, h2, h3, h4⟩, h5⟩ hsz
    have hkl : k < (Sx.chunks s.data.toList).length := (List.getElem?_eq_some_iff.1 hx).1
    have hk9 : ch.length + k < 20000 := by have := HLH.out; have := HLS.out; omega
    have hst : strs ch ++ strs ((Sx.chunks s.data.toList).take (k + 1)) = (strs ch ++ strs ((Sx.chunks s.data.toList).take k)) ++ [.string x] := by
      rw [List.take_add_one, hx]; simp [strs]
    have HST := Lib.hid hst
    generalize strs ch ++ strs ((Sx.chunks s.data.toList).take k) = xs at h2 HST
    clear hst
    have hc : W.cell? ⟨b5, 0, none⟩ = some v := h1.cell (k := 0) rfl
    have hf := h1.free 0
    have h5s := h5.size
    have hB5l := h1.lt
    rw [hs2] at hsz
    obtain ⟨iS, eS, zS, sS, bS⟩ := info_parts (show (Try.prog.info? 9).map (fun i => (i.zero, i.size, i.bytes)) = some (some (.string ⟨#[]⟩), 1, 16) by kernel_rfl)
    gi_wp2_with (gi_at_builtin; refine own_appendIn rfl _ _ 88 rfl 9 iS (.string ⟨#[]⟩) 1 16 Try.underlying88 eS zS sS bS rfl (by decide) w.heap.size (ch.length + k) _ _ rfl (h2.alloc _) (by simp; omega) ⟨W.heap.size, 0, none⟩ 1 1 [.string x] rfl rfl (one_new _ _ _) (by simp [Value.oneCell']) (by unfold maxLen; omega) (by omega) ?_; intro v' w1' hO' hg' hk'; obtain ⟨g2, cap2, rfl, hgb2, hgl2, hcp2, hcl2⟩ := hO'.form (by omega); have hB1 := (h1.alloc (Obj.cells #[Value.string x] 9)).grown hg' (fun e => (h4 _ e).1 rfl); have hc1 : w1'.cell? ⟨b5, 0, none⟩ = some v := hB1.cell (k := 0) rfl; have hf1 := hB1.free 0; clear hc hf)
    have hg2 : g2 ≠ b5 ∧ g2 ≠ b5 + 1 := by
      rcases hk' g2 rfl with h | h
      · exact h4 _ h
      · simp at h; omega
    have hgb : ∀ j o, W.heap[j]? = some o → j ≠ b5 → (∀ g, v.ownBlock = some g → g ≠ j) → (w1'.setCell ⟨b5, 0, none⟩ (.slice (some ⟨g2, 0, none⟩) (ch.length + k + 1) cap2)).heap[j]? = some o := fun j o hj hne hno => by
      have hlt : j < W.heap.size := (Array.getElem?_eq_some_iff.1 hj).1
      rw [Below.heap_setCell _ _ _ _ (by simpa using hne), hg'.block j (by simp; omega) (fun e => hno j e.symm rfl), Below.heap_alloc _ _ _ hlt]
      exact hj
    have hsz1 : W.heap.size ≤ w1'.heap.size := by have := hg'.size; simp at this; omega
    refine ⟨⟨⟨_, hB1.set 0 _, ?_, fun g hg => ?_⟩, ?_⟩, ?_, ?_⟩
    · rw [HST.out, ← Nat.add_assoc]
      exact hO'.other (fun k hk e => by
        have : g2 = k := by simpa [Value.ownBlock] using hk
        simp at e; omega) _
    · have : g2 = g := by simpa [Value.ownBlock] using hg
      omega
    · refine ⟨hg'.os.trans h5.os, hg'.tape.trans h5.tape, hg'.output.trans h5.output, by simp; omega, fun j hj => ?_⟩
      rw [hgb j _ (Array.getElem?_eq_getElem (by omega)) (by omega) (fun g hg e => by have := (h2.blk hg).1; omega), ← Array.getElem?_eq_getElem]
      exact h5.block j hj
    · first | exact hsz1 | (simp; exact hsz1)
    · intro j o hj hor
      refine hgb j o hj (fun e => ?_) (fun g hg e => ?_)
      · rw [e] at hj
        rcases hor with h | h
        · omega
        · have hx1 : W.heap[b5]? = _ := h1
          rw [hx1] at hj; cases hj; cases h
      · subst e
        rcases hor with h | h
        · exact (h4 _ hg).2 h
        · obtain ⟨cs, T, fr, hcs⟩ := h2.cellsOf h3 g hg
          rw [hcs] at hj; cases hj; cases h
  case done =>
    rintro D W hD ⟨⟨v, h1, h2, h3, h4⟩, h5⟩ hK
    rw [List.take_length] at h2
    have hcell : W.cell? ⟨b5, 0, none⟩ = some v := h1.cell (k := 0) rfl
    have hS0 : Below W.heap.size W W := Below.refl _ _
    go_wp2_with fail
    have hA : Below W.heap.size W W.drew := (Below.refl _ _).drew
    obtain ⟨iS, eS, zS, sS, bS⟩ := info_parts (show (Try.prog.info? 9).map (fun i => (i.zero, i.size, i.bytes)) = some (some (.string ⟨#[]⟩), 1, 16) by kernel_rfl)
    have h5s := h5.size
    have hn9 : ch.length + (Sx.chunks s.data.toList).length < 30000 := by have := HLH.out; have := HLS.out; omega
    generalize hxs : strs ch ++ strs (Sx.chunks s.data.toList) = xs at h2
    generalize hnn : ch.length + (Sx.chunks s.data.toList).length = nn at h2 h3 hn9
    have HXS := Lib.hid hxs
    have HNN := Lib.hid hnn
    clear hxs hnn
    obtain ⟨m1, hm1⟩ : ∃ m1, m1 = Sx.nums (UInt64.ofNat (8 * h.size)) := ⟨_, rfl⟩
    obtain ⟨m2, hm2⟩ : ∃ m2, m2 = Sx.nums (UInt64.ofNat (8 * s.size)) := ⟨_, rfl⟩
    have C1 := Lib.hid (fun w => bytes_len h.size hh w)
    have C2 := Lib.hid (fun w => bytes_len s.size hs w)
    have hn1 := nums_size (UInt64.ofNat (8 * h.size))
    have hn2 := nums_size (UInt64.ofNat (8 * s.size))
    rw [← hm1] at C1 hn1
    rw [← hm2] at C2 hn2
    have HM1 := Lib.hid hm1
    have HM2 := Lib.hid hm2
    clear hm1 hm2
    have hDk : ∀ k, v.ownBlock = some k → w.heap.size ≤ k ∧ b5 ≠ k ∧ D ≠ k := fun k hk => ⟨(h2.blk hk).1, fun e => (h4 k hk).1 e.symm, fun e => by
      obtain ⟨cs, T, fr, hcs⟩ := h2.cellsOf h3 k hk
      rw [← e, hK] at hcs; cases hcs⟩
    have hS : KeptD w ⟨b5, 0, none⟩ v D W := ⟨h5, hcell, hK⟩
    go_region_held3 (fun W' => Below w.heap.size w W' ∧ W'.cell? ⟨b5, 0, none⟩ = some v ∧ W'.heap[D]? = some (.deferred (some [])))
      (first | assumption | exact keptD hS (Below.refl _ _).drew | exact keptD (by assumption) hk | exact keptD (by assumption) ((Below.refl _ _).alloc (Nat.le_refl _) _) | exact keptD_grown (by assumption) hg' hDk)
      ((first | (go_at_call 149; (first | (with_reducible refine (C1.out _).mono ?_) | (with_reducible refine (C2.out _).mono ?_)); rintro e w1 ⟨rfl, hk⟩; replace hA := Below.callee hA hk) | (refine own_step rfl _ _ 88 rfl 9 iS (.string ⟨#[]⟩) 1 16 Try.underlying88 eS zS sS bS rfl (by decide) w.heap.size nn v xs rfl ((h2.below hA).alloc _) (by have := hA.size; simp; omega) ⟨w1.heap.size, 0, none⟩ 1 1 [.string _] rfl rfl (one_new _ _ _) (by simp [Value.oneCell']) (by unfold maxLen; omega) (by omega) ?_; intro v' w2 hO' hg' hk' hkp)))
    have hS2 : KeptD w ⟨b5, 0, none⟩ v D w2 := by assumption
    have hfin : strs (Sx.blocks h.data.toList s.data.toList) = xs ++ [.string (⟨m1.toArray⟩ ++ ⟨m2.toArray⟩)] := by
      rw [Sx.blocks, HCH.out, ← HXS.out, str_add, HM1.out, HM2.out, Sx.sizes, show s.data.toList.length = s.size by simp, show h.data.toList.length = h.size by simp]
      simp [strs]
    have hlen : (Sx.blocks h.data.toList s.data.toList).length = nn + 1 := by
      rw [Sx.blocks, HCH.out, ← HNN.out, List.length_append, List.length_append]; rfl
    have HF := Lib.hid hfin
    have HL := Lib.hid hlen
    clear hfin hlen
    go_wp2_with fail
    have hO9 : Own (w2.putObj D (.deferred none)) w.heap.size 1 v' (nn + 1) (xs ++ [.string (⟨m1.toArray⟩ ++ ⟨m2.toArray⟩)]) :=
      (KB.of_put (B := D) hS2.2.2 rfl (Nat.le_refl _)).own hO' (hO'.cellsOf (fun e => by omega))
    rw [← HF.out, ← HL.out] at hO9
    refine ⟨by simp, .inl ⟨_, _, rfl, run_takeDeferred hS2.2.2, ?_⟩⟩
    exact ⟨_, results_tmp rfl _ _ _, v', rfl, hO9, (KB.of_put (B := w.heap.size) hS2.2.2 rfl (by omega)).below rfl hS2.1⟩
end Go.Proofs.Ytieooonobjkglaa
namespace Go.Proofs.Ytieooonobjkglaa
open Go Go.Proofs Go.RowKit Go.Shelf SW
set_option maxRecDepth 20000
set_option maxHeartbeats 4000000
section
attribute [local go_sem] U64_xor
/-- The blocks' sum. -/
def Sx.sumOf (q : Sx.Poly) (l : List ByteArray) : Sx.Poly := l.foldl (fun o b => Sx.times (Sx.pxor o (Sx.polyOf b.data.toList)) q) (0, 0)
def Sx.sum (h a s : List UInt8) : List UInt8 := Sx.polyBlock (Sx.sumOf (Sx.polyOf h) (Sx.blocks a s))
theorem Sx.sumOf_succ (q : Sx.Poly) (l : List ByteArray) (k : Nat) (b : ByteArray) (h : l[k]? = some b) : Sx.sumOf q (l.take (k + 1)) = Sx.times (Sx.pxor (Sx.sumOf q (l.take k)) (Sx.polyOf b.data.toList)) q := by
  unfold Sx.sumOf
  rw [List.take_add_one, h, List.foldl_append]
  rfl
theorem Sx.blocks_size (a s : List UInt8) : ∀ b ∈ Sx.blocks a s, b.size = 16 := by
  have hc : ∀ (l : List UInt8) (k : Nat), (⟨(Sx.chunk l k).toArray⟩ : ByteArray).size = 16 := fun l k => by
    simp only [ByteArray.size, List.size_toArray, Sx.chunk, List.length_append, List.length_replicate]
    have : ((l.drop (16 * k)).take 16).length ≤ 16 := List.length_take_le _ _
    omega
  intro b hb
  simp only [Sx.blocks, Sx.chunks, List.mem_append, List.mem_map, List.mem_singleton] at hb
  rcases hb with (⟨k, _, rfl⟩ | ⟨k, _, rfl⟩) | rfl
  · exact hc _ _
  · exact hc _ _
  · simp [ByteArray.size, Sx.sizes, Sx.nums_length]
theorem sum_any (h a s : ByteArray) (hh : h.size = 16) (ha : a.size ≤ 100000) (hs : s.size ≤ 100000) (w : World) :
    Calls Try.prog 85 #[.string h, .string a, .string s] w fun e w' => e = .returned (.tuple #[.string ⟨(Sx.sum h.data.toList a.data.toList s.data.toList).toArray⟩, .int .i64 0]) ∧ Below w.heap.size w w' := by
  have hsz : ∀ r : Sx.Poly, (Try.prog.info? 161).map (·.size) = some (pv r).size := fun r => by show _ = some 2; kernel_rfl
  have hpv : ∀ r : Sx.Poly, (pv r).all (·.oneCell') = true := fun r => by simp [pv, Value.oneCell']
  have h16 : ((h.size : Int) != 16) = false := by rw [hh]; rfl
  have hge : 16 ≤ h.size := by omega
  clear hh
  go_enter Try.func85, Try.ntmps85
  go_wp2_with (first
    | (go_at_call 112; refine (of_any h hge _).mono ?_; rintro e w1 ⟨rfl, hk1⟩)
    | (refine wpList_store_row rfl 161 _ _ rfl w1.heap.size _ rfl rfl 161 _ (Blk.new _ _ _) (hsz _) rfl (hpv _) ?_)
    | (go_at_call 113; refine (blocks_any _ _ ha hs _).mono ?_; rintro e w2 ⟨v, rfl, hO, hW2⟩; obtain ⟨bb, cc, rfl⟩ := hO.isSlice))
  have hb1 : w.heap.size + 1 ≤ w1.heap.size := by have := hk1.size; simpa using this
  have hsR : ((w1.alloc (Obj.cells #[Value.int IntKind.u64 0, Value.int IntKind.u64 0] 161)).setRow w1.heap.size (pv (Sx.polyOf h.data.toList))).heap.size = w1.heap.size + 1 := by simp [World.setRow]
  rw [hsR] at hO hW2
  have g8 : Blk w2 w.heap.size (pv (0, 0)) 161 := ((((Blk.new _ _ _).callee hk1).alloc _).otherRow (by omega) _).below hW2 (by omega)
  have g9 : Blk w2 w1.heap.size (pv (Sx.polyOf h.data.toList)) 161 := ((Blk.new w1 _ _).row _).below hW2 (by omega)
  have gW : Below w.heap.size w w2 :=
    (below_setRow ((Below.callee ((Below.refl _ w).alloc (Nat.le_refl _) _) hk1).alloc (by omega) _) (by omega) _).trans (hW2.mono (by omega))
  obtain ⟨b9, hb9⟩ : ∃ b9, b9 = w1.heap.size := ⟨_, rfl⟩
  have hne : w.heap.size < b9 := by omega
  rw [← hb9] at g9 hO ⊢
  clear hW2 hsR hk1 hb1 hb9
  have hbs := Sx.blocks_size a.data.toList s.data.toList
  have hbl : (Sx.blocks a.data.toList s.data.toList).length < 30000 := by
    simp [Sx.blocks, Sx.chunks]; omega
  have HR : Hid (Sx.sum h.data.toList a.data.toList s.data.toList = Sx.polyBlock (Sx.sumOf (Sx.polyOf h.data.toList) (Sx.blocks a.data.toList s.data.toList))) := by exact rfl
  generalize hbq : Sx.blocks a.data.toList s.data.toList = bl at hO hbs hbl HR ⊢
  generalize hqq : Sx.polyOf h.data.toList = q at g9 HR ⊢
  clear hbq hqq
  go_loopw [22] (fun iv wr => ∃ k : Nat, k ≤ bl.length ∧ iv = .int .i64 k ∧ Blk wr w.heap.size (pv (Sx.sumOf q (bl.take k))) 161 ∧ Blk wr b9 (pv q) 161 ∧ Own wr (b9 + 1) 1 (.slice bb bl.length cc) bl.length (strs bl) ∧ Below w.heap.size w wr)
    (fun iv _ => bl.length - (intOf iv).toNat)
  case atStart => exact ⟨0, by omega, rfl, g8, g9, hO, gW⟩
  case round =>
    clear g8 g9 hO gW
    obtain ⟨k, hk, rfl, g8, g9, hO, gW⟩ := hrel
    by_cases hlt : k < bl.length
    · obtain ⟨g, cap, hbb, hgb, hgl, hcp, hcl⟩ := hO.form (by omega)
      have hbb2 : bb = some ⟨g, 0, none⟩ := by cases hbb; rfl
      have hck : bl[k]? = some bl[k] := List.getElem?_eq_getElem hlt
      have hsx := Sx.sumOf_succ q bl k _ hck
      have hb16 : 16 ≤ bl[k].size := by rw [hbs _ (List.getElem_mem hlt)]; omega
      have hcell := hcl k (.string bl[k]) (by simp [strs, hlt])
      generalize bl[k] = b at hsx hb16 hcell
      generalize Sx.sumOf q (bl.take k) = p at g8 hsx
      have HSX := Lib.hid hsx
      have HBS := Lib.hid hbs
      clear hsx hbs hck hbb hcl
      subst hbb2
      obtain ⟨r, hr⟩ : ∃ r, r = Sx.polyOf b.data.toList := ⟨_, rfl⟩
      have C1 : Hid (∀ w, Calls Try.prog 112 #[.string b] w fun e w' => e = .returned (.agg (pv r)) ∧ Below w.heap.size w w') := by
        rw [hr]; exact fun w => of_any b hb16 w
      rw [← hr] at HSX
      clear hr
      go_wp2_with (first
        | (go_at_call 112; refine (C1.out _).mono ?_; rintro e w3 ⟨rfl, hk1⟩)
        | (refine wpList_store_row rfl 161 _ _ rfl w3.heap.size _ rfl rfl 161 _ (Blk.new _ _ _) (hsz _) rfl (hpv _) ?_
           have hs3 := hk1.size
           have g8a : Blk ((w3.alloc (Obj.cells #[Value.int IntKind.u64 0, Value.int IntKind.u64 0] 161)).setRow w3.heap.size (pv r)) w.heap.size (pv p) 161 := ((g8.callee hk1).alloc _).otherRow (by have := g8.lt; omega) _
           have g9a : Blk ((w3.alloc (Obj.cells #[Value.int IntKind.u64 0, Value.int IntKind.u64 0] 161)).setRow w3.heap.size (pv r)) b9 (pv q) 161 := ((g9.callee hk1).alloc _).otherRow (by have := g9.lt; omega) _
           have gra : Blk ((w3.alloc (Obj.cells #[Value.int IntKind.u64 0, Value.int IntKind.u64 0] 161)).setRow w3.heap.size (pv r)) w3.heap.size (pv r) 161 := (Blk.new _ _ _).row _
           have gOa : Own ((w3.alloc (Obj.cells #[Value.int IntKind.u64 0, Value.int IntKind.u64 0] 161)).setRow w3.heap.size (pv r)) (b9 + 1) 1 (.slice (some ⟨g, 0, none⟩) bl.length cc) bl.length (strs bl) := ((hO.below hk1).alloc _).otherRow (fun k hk => by have := (hO.blk hk).2; omega) _
           have gWa : Below w.heap.size w ((w3.alloc (Obj.cells #[Value.int IntKind.u64 0, Value.int IntKind.u64 0] 161)).setRow w3.heap.size (pv r)) := below_setRow ((Below.callee gW hk1).alloc (by have := gW.size; omega) _) (by have := gW.size; omega) _
           obtain ⟨W4, hW4⟩ : ∃ W4, ((w3.alloc (Obj.cells #[Value.int IntKind.u64 0, Value.int IntKind.u64 0] 161)).setRow w3.heap.size (pv r)) = W4 := ⟨_, rfl⟩
           rw [hW4] at g8a g9a gra gOa gWa ⊢
           have c1 : W4.cell? ⟨w.heap.size, 0, none⟩ = some (.int .u64 (U64 p.1)) := g8a.cell (k := 0) rfl
           have c2 : W4.cell? ⟨w.heap.size, 1, none⟩ = some (.int .u64 (U64 p.2)) := g8a.cell (k := 1) rfl
           have c3 : W4.cell? ⟨w3.heap.size, 0, none⟩ = some (.int .u64 (U64 r.1)) := gra.cell (k := 0) rfl
           have c4 : W4.cell? ⟨w3.heap.size, 1, none⟩ = some (.int .u64 (U64 r.2)) := gra.cell (k := 1) rfl
           clear hW4 gra hk1 g8 g9 hO gW hcell)
        | (refine wpList_load_row rfl 161 _ rfl b9 rfl 161 _ (0, 0) _ g9a Try.underlying161 rfl (hsz _) ?_)
        | (go_at_call 114; refine (times_any (Sx.pxor p r) q _).mono ?_; rintro e w5 ⟨rfl, hk5⟩; clear c1 c2 c3 c4)
        | (refine wpList_store_row rfl 161 _ _ rfl w.heap.size _ rfl rfl 161 _ (g8a.callee hk5) (hsz _) rfl (hpv _) ?_))
      go_roundw
      case rel =>
        refine ⟨k + 1, by omega, by go_num, ?_, (g9a.callee hk5).otherRow (by omega) _, (gOa.below hk5).otherRow (fun k hk => by have := (gOa.blk hk).1; omega) _, below_setRow (Below.callee gWa hk5) (Nat.le_refl _) _⟩
        rw [HSX.out]
        exact (g8a.callee hk5).row _
      case measure => simp [intOf]; omega
    · obtain rfl : k = bl.length := by omega
      rw [List.take_length] at g8
      go_wp2_with (first
        | (refine wpList_load_row rfl 161 _ rfl w.heap.size rfl 161 _ (0, 0) _ g8 Try.underlying161 rfl (hsz _) ?_)
        | (go_at_call 115; refine (block_any _ _).mono ?_; rintro e w5 ⟨rfl, hk5⟩))
      go_ret2
      rw [HR.out]
      exact ⟨rfl, Below.callee gW hk5⟩
end
end Go.Proofs.Ytieooonobjkglaa
