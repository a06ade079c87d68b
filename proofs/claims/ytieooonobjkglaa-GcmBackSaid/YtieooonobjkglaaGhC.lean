/- The contract of slices.AppendSeq at filled's iterator. No condition on the world. -/
import Derived.Test.YtieooonobjkglaaGhB
namespace Go.Proofs.Ytieooonobjkglaa
open Go Go.Proofs Go.RowKit Go.Shelf SW
set_option maxRecDepth 20000
set_option maxHeartbeats 4000000
attribute [local go_sem] Oper.semAt_some

/-- The append law of XOwn in a walk within a fence. -/
theorem own_appendIn {F : Fence} {fu : Nat} {P : Program} {w : World} {ops : Array Oper} {rest : List Oper} {o : Oper} {a : Act} {Q : Exit → Act → World → Prop}
    (hg : o.guard = none) (s x : Operand) (t : TypeId) (hop : o.op = Op.call { callee := Callee.builtin Builtin.append, args := #[s, x], argTypes := #[t, t] })
    (e : TypeId) (i : TypeInfo) (z : Value) (size bytes : Nat) (h1 : P.underlying t = some (.slice e)) (h2 : P.info? e = some i) (h3 : i.zero = some z) (h4 : i.size = size) (h5 : i.bytes = bytes) (h6 : z.cells.size = size) (h7 : 0 < size)
    (base n : Nat) (v : Value) (xs : List Value) (hs : a.eval s = v) (hv : Own w base size v n xs) (hbase : base ≤ w.heap.size)
    (ad : Addr) (m c : Nat) (news : List Value) (hx : a.eval x = .slice (some ad) m c) (hn : news.length = m * size) (hc : ∀ j u, news[j]? = some u → w.cell? (ad.add j) = some u) (h1c : ∀ u ∈ news, u.oneCell' = true)
    (b1 : n + m ≤ maxLen) (b2 : (n + m) * bytes ≤ 140737488355328)
    (hK : ∀ v' w', Own w' base size v' (n + m) (xs ++ news) → w.grownBy w' v.ownBlock → (∀ k, v'.ownBlock = some k → v.ownBlock = some k ∨ w.heap.size ≤ k) → wpListIn F fu P ops Q rest (a.put o.dst v') w') :
    wpListIn F fu P ops Q (o :: rest) a w := by
  refine wpListIn_plain hg fun K hK' => ?_
  obtain ⟨v', w', hrun, r1, r2, r3, _⟩ := run_own_append (P := P) t o.type e i z size bytes h1 h2 h3 h4 h5 h6 h7 base n v xs hv hbase ad m c news hn hc h1c b1 b2
  unfold Oper.wpIn
  refine ⟨?_, ?_⟩
  · simp [Oper.about, hop, resolve, Target.leads, Sem.run_pure]
  · rw [Oper.semAt_plain F _ _ (by rw [hop]; intro c hc'; cases hc')]
    simp [execOp, hop, resolve, invoke, builtin, hs, hx, hrun, Result.andThen]
    exact hK' _ _ (hK v' w' r1 r2 r3)

/-- As 'Below', but for one block. -/
structure BelowBut (w : World) (Bn : Nat) (w' : World) : Prop where
  os : w'.os = w.os
  tape : w'.tape = w.tape
  output : w'.output = w.output
  size : w.heap.size ≤ w'.heap.size
  low : ∀ j : Nat, j < w.heap.size → j ≠ Bn → w'.heap[j]? = w.heap[j]?
def strs (l : List ByteArray) : List Value := l.map .string

theorem cells_of_cell {W : World} {g j : Nat} {u : Value} (h : W.cell? ⟨g, j, none⟩ = some u) : ∃ cs T fr, W.heap[g]? = some (Obj.cells cs T fr) := by
  unfold World.cell? at h
  split at h
  · exact ⟨_, _, _, by assumption⟩
  · cases h
theorem Own.cellsOf {W : World} {base n : Nat} {v : Value} {xs : List Value} (h : Own W base 1 v n xs) (h0 : n = 0 → v = .slice none 0 0) : ∀ g, v.ownBlock = some g → ∃ cs T fr, W.heap[g]? = some (Obj.cells cs T fr) := fun g hg => by
  by_cases hn : n = 0
  · rw [h0 hn] at hg
    simp [Value.ownBlock] at hg
  · obtain ⟨g', cap, rfl, _, _, _, hc⟩ := h.form (by omega)
    have e : g' = g := by simpa [Value.ownBlock] using hg
    subst e
    have hl : 0 < xs.length := by rw [h.1]; omega
    exact cells_of_cell (hc 0 _ (List.getElem?_eq_getElem hl))
theorem BelowBut.kb {w W W' : World} {Bn B : Nat} (h : BelowBut w Bn W) (k : KB B W W') (hB : w.heap.size ≤ B) : BelowBut w Bn W' :=
  ⟨k.os.trans h.os, k.tape.trans h.tape, k.output.trans h.output, Nat.le_trans h.size k.size, fun j hj hn => (k.low j (by omega)).trans (h.low j hj hn)⟩
theorem BelowBut.set {w W : World} {Bn : Nat} (h : BelowBut w Bn W) (v : Value) : BelowBut w Bn (W.setCell ⟨Bn, 0, none⟩ v) :=
  ⟨h.os, h.tape, h.output, by simpa using h.size, fun j hj hn => (Below.heap_setCell _ _ _ _ (by simpa using hn)).trans (h.low j hj hn)⟩

theorem appendSeq_any (s : ByteArray) (hs : s.size ≤ 100000) (Bn : Nat) (w : World) (hBn : Blk w Bn #[.string s] 9) :
    Calls Try.prog 172 #[.slice none 0 0, .func (.func 173) #[] #[.pointer (some ⟨Bn, 0, none⟩)]] w fun e w' =>
      ∃ v, e = .returned v ∧ Own w' w.heap.size 1 v (Sx.chunks s.data.toList).length (strs (Sx.chunks s.data.toList)) ∧ BelowBut w Bn w' ∧ ((Sx.chunks s.data.toList).length = 0 → v = .slice none 0 0) := by
  refine (callsIn_wide (n := 3)).1 ?_
  refine callsIn_of_wp_marks Try.func172 rfl trivial ?_ rfl
  simp only [Try.ntmps172, List.size_toArray, List.length_cons, List.length_nil, Nat.reduceAdd, Nat.reduceSub, Array.replicate_succ, Array.replicate_zero, List.push_toArray, List.append_toArray, List.nil_append, List.cons_append]
  gi_wp2
  have hbl := hBn.lt
  refine range_law (by omega) (gf := 173) (lb := #[.pointer (some ⟨Bn, 0, none⟩)]) rfl (enters_of Try.func173 (by kernel_rfl) rfl) (filled1 s hs 2 (by omega) Bn) (hBn.alloc _) (fun _ => rfl)
    (fun k W => (∃ v, Blk W w.heap.size #[v] 88 ∧ Own W w.heap.size 1 v k (strs ((Sx.chunks s.data.toList).take k)) ∧ (k = 0 → v = .slice none 0 0) ∧ (∀ g, v.ownBlock = some g → g ≠ w.heap.size)) ∧ BelowBut w Bn W)
    ?hI ?hIs ?h0 (fun x => { tmps := #[.slice none 0 0, .func (.func 173) #[] #[.pointer (some ⟨Bn, 0, none⟩)], .pointer (some ⟨w.heap.size, 0, none⟩), undef, .slice none 0 0, .string x, .func (.func 173) #[] #[.pointer (some ⟨Bn, 0, none⟩)], .string x, undef, undef, undef, undef, undef], defers := [] }) ?assign ?body ?done
  case hI =>
    rintro k A A' ⟨⟨v, h1, h2, h3, h4⟩, h5⟩ hk
    exact ⟨⟨v, hk.blk h1, hk.own h2 (h2.cellsOf h3), h3, h4⟩, h5.kb hk (by simp)⟩
  case hIs =>
    rintro k A u ⟨⟨v, h1, h2, h3, h4⟩, h5⟩
    exact ⟨⟨v, h1.other (by simp; omega) _, h2.other (fun k hk e => by have := (h2.blk hk).1; simp at e; omega) _, h3, h4⟩, h5.set _⟩
  case h0 =>
    exact ⟨⟨_, Blk.new _ _ _, Own.nil _ _ _, fun _ => rfl, fun g hg => by simp [Value.ownBlock] at hg⟩, ⟨rfl, rfl, rfl, by simp, fun j hj _ => Below.heap_alloc _ _ _ hj⟩⟩
  case assign =>
    intro l x W K hK
    gi_wp2
    exact hK
  case body =>
    rintro l k x W hx ⟨⟨v, h1, h2, h3, h4⟩, h5⟩ hsz
    have hlen : (Sx.chunks s.data.toList).length = (s.size + 15) / 16 := by simp [Sx.chunks]
    have hkl : k < (Sx.chunks s.data.toList).length := (List.getElem?_eq_some_iff.1 hx).1
    have hk9 : k < 10000 := by omega
    have hst : strs ((Sx.chunks s.data.toList).take (k + 1)) = strs ((Sx.chunks s.data.toList).take k) ++ [.string x] := by
      rw [List.take_add_one, hx]; simp [strs]
    have HST := Lib.hid hst
    generalize strs ((Sx.chunks s.data.toList).take k) = xs at h2 HST
    clear hst hlen
    have hc : W.cell? ⟨w.heap.size, 0, none⟩ = some v := h1.cell (k := 0) rfl
    have hf := h1.free 0
    obtain ⟨iS, eS, zS, sS, bS⟩ := info_parts (show (Try.prog.info? 9).map (fun i => (i.zero, i.size, i.bytes)) = some (some (.string ⟨#[]⟩), 1, 16) by kernel_rfl)
    gi_wp2_with (gi_at_builtin; refine own_appendIn rfl _ _ 88 rfl 9 iS (.string ⟨#[]⟩) 1 16 Try.underlying88 eS zS sS bS rfl (by decide) w.heap.size k _ _ rfl (h2.alloc _) (by have := h5.size; simp; omega) ⟨W.heap.size, 0, none⟩ 1 1 [.string x] rfl rfl (one_new _ _ _) (by simp [Value.oneCell']) (by unfold maxLen; omega) (by omega) ?_; intro v' w1 hO' hg' hk'; obtain ⟨g2, cap2, rfl, hgb2, hgl2, hcp2, hcl2⟩ := hO'.form (by omega); have hB1 := (h1.alloc (Obj.cells #[Value.string x] 9)).grown hg' (fun e => h4 _ e rfl); have hc1 : w1.cell? ⟨w.heap.size, 0, none⟩ = some v := hB1.cell (k := 0) rfl; have hf1 := hB1.free 0; clear hc hf)
    have hg2 : g2 ≠ w.heap.size := fun e => by
      rcases hk' g2 rfl with h | h
      · exact h4 _ h e
      · have := h1.lt
        simp at h; omega
    have hgb : ∀ j o, W.heap[j]? = some o → j ≠ w.heap.size → (∀ g, v.ownBlock = some g → g ≠ j) → (w1.setCell ⟨w.heap.size, 0, none⟩ (.slice (some ⟨g2, 0, none⟩) (k + 1) cap2)).heap[j]? = some o := fun j o hj hne hno => by
      have hlt : j < W.heap.size := (Array.getElem?_eq_some_iff.1 hj).1
      rw [Below.heap_setCell _ _ _ _ (by simpa using hne), hg'.block j (by simp; omega) (fun e => hno j e.symm rfl), Below.heap_alloc _ _ _ hlt]
      exact hj
    have hsz1 : W.heap.size ≤ w1.heap.size := by have := hg'.size; simp at this; omega
    refine ⟨⟨⟨_, hB1.set 0 _, ?_, fun g hg => ?_⟩, ?_⟩, ?_, ?_⟩
    · rw [HST.out]
      exact hO'.other (fun k hk e => by
        have : g2 = k := by simpa [Value.ownBlock] using hk
        simp at e; omega) _
    · have : g2 = g := by simpa [Value.ownBlock] using hg
      omega
    · refine ⟨hg'.os.trans h5.os, hg'.tape.trans h5.tape, hg'.output.trans h5.output, by have := h5.size; simp; omega, fun j hj hn => ?_⟩
      have hjW : j < W.heap.size := by have := h5.size; omega
      rw [hgb j _ (Array.getElem?_eq_getElem hjW) (by omega) (fun g hg e => by have := (h2.blk hg).1; omega), ← Array.getElem?_eq_getElem hjW]
      exact h5.low j hj hn
    · first | exact hsz1 | (simp; exact hsz1)
    · intro j o hj hor
      refine hgb j o hj (fun e => ?_) (fun g hg e => ?_)
      · subst e
        rcases hor with h | h
        · omega
        · have hx1 : W.heap[w.heap.size]? = _ := h1
          rw [hx1] at hj; cases hj; cases h
      · subst e
        rcases hor with h | h
        · have := (h2.blk hg).1; omega
        · obtain ⟨cs, T, fr, hcs⟩ := h2.cellsOf h3 g hg
          rw [hcs] at hj; cases hj; cases h
  case done =>
    rintro D W hD ⟨⟨v, h1, h2, h3, h4⟩, h5⟩ hK
    have hc : W.cell? ⟨w.heap.size, 0, none⟩ = some v := h1.cell (k := 0) rfl
    gi_wp2
    refine ⟨by simp, .inl ⟨_, _, rfl, run_takeDeferred hK, ?_⟩⟩
    refine ⟨_, results_tmp rfl _ _ _, v, rfl, ?_, ?_, h3⟩
    · have hkb : KB D W (W.putObj D (.deferred none)) := KB.of_put hK rfl (Nat.le_refl _)
      have := hkb.own h2 (h2.cellsOf h3)
      rwa [List.take_length] at this
    · exact h5.kb (KB.of_put (B := D) hK rfl (Nat.le_refl _)) (by simp at hD; omega)
end Go.Proofs.Ytieooonobjkglaa
