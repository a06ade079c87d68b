/- A slice that a call has made, told by its cells alone: what it holds, that its room may be written; how it grows by append. No condition. -/
import Derived.Test.YtieooonobjkglaaQMem
import Derived.ArgAppend
import Derived.Lib.SlBytesRow
namespace Go.Proofs.Ytieooonobjkglaa
open Go Go.RowKit SW

/-- The slice value v of n elements, 'size' cells each, lies at the head of a block from 'base' on, holds xs, and all cells of its capacity may be written; or it is nil. -/
def Own (w : World) (base size : Nat) (v : Value) (n : Nat) (xs : List Value) : Prop :=
  xs.length = n * size ∧ ((v = .slice none 0 0 ∧ n = 0) ∨ ∃ g cap, v = .slice (some ⟨g, 0, none⟩) n cap ∧ base ≤ g ∧ g < w.heap.size ∧ n ≤ cap ∧ (∀ j u, xs[j]? = some u → w.cell? ⟨g, j, none⟩ = some u) ∧
    ∀ j, j < cap * size → (w.cell? ⟨g, j, none⟩).isSome = true ∧ w.frozen? ⟨g, j, none⟩ = false)
namespace Own
variable {w w' : World} {base size : Nat} {v : Value} {n : Nat} {xs : List Value}
theorem nil (w : World) (base size : Nat) : Own w base size (.slice none 0 0) 0 [] := ⟨by simp, .inl ⟨rfl, rfl⟩⟩
theorem blk (h : Own w base size v n xs) {k : Nat} (hk : v.ownBlock = some k) : base ≤ k ∧ k < w.heap.size := by
  rcases h.2 with ⟨rfl, _⟩ | ⟨g, cap, rfl, hb, hg, _⟩
  · simp [Value.ownBlock] at hk
  · have : g = k := by simpa [Value.ownBlock] using hk
    omega
/-- What turns no cell of its block keeps it. -/
theorem block (h : Own w base size v n xs) (hs : w.heap.size ≤ w'.heap.size) (hk : ∀ k, v.ownBlock = some k → w'.heap[k]? = w.heap[k]?) : Own w' base size v n xs := by
  refine ⟨h.1, ?_⟩
  rcases h.2 with h2 | ⟨g, cap, rfl, hb, hg, hn, hc, hf⟩
  · exact .inl h2
  · have e := hk g rfl
    exact .inr ⟨g, cap, rfl, hb, by omega, hn, fun j u hj => (World.cell?_of_block (w := w) (a := ⟨g, j, none⟩) e).trans (hc j u hj), fun j hj => by
      rw [World.cell?_of_block (w := w) (a := ⟨g, j, none⟩) e, World.frozen?_of_block (w := w) (a := ⟨g, j, none⟩) e]; exact hf j hj⟩
theorem kept (h : Own w base size v n xs) {row : Option Nat} (hg : w.grownBy w' row) (hne : ∀ k, v.ownBlock = some k → row ≠ some k) : Own w' base size v n xs :=
  h.block hg.size fun k hk => hg.block k (h.blk hk).2 (fun e => hne k hk e.symm)
theorem below (h : Own w base size v n xs) (hb : Below w.heap.size w w') : Own w' base size v n xs :=
  h.block hb.size fun k hk => hb.block k (h.blk hk).2
theorem alloc (h : Own w base size v n xs) (o : Obj) : Own (w.alloc o) base size v n xs := h.below ((Below.refl _ _).alloc (Nat.le_refl _) o)
theorem drew (h : Own w base size v n xs) : Own w.drew base size v n xs := h
theorem drewN (h : Own w base size v n xs) (k : Nat) : Own (w.drewN k) base size v n xs := h
theorem other (h : Own w base size v n xs) {a : Addr} (hne : ∀ k, v.ownBlock = some k → a.block ≠ k) (u : Value) : Own (w.setCell a u) base size v n xs :=
  h.block (by simp) fun k hk => Below.heap_setCell _ _ _ _ (fun e => hne k hk e.symm)
theorem otherRow (h : Own w base size v n xs) {b : Nat} (hne : ∀ k, v.ownBlock = some k → b ≠ k) (cs : Array Value) : Own (w.setRow b cs) base size v n xs :=
  h.block (by simp [World.setRow]) fun k hk => by
    simp only [World.setRow, Array.getElem?_modify]
    rw [if_neg (hne k hk)]
theorem of_row {e : TypeId} (h : w.ownsRow base e size v n xs) : Own w base size v n xs := by
  refine ⟨h.1, ?_⟩
  rcases h.2 with h2 | ⟨g, cap, cur, rfl, hb, hh, hn, _, hs, hx⟩
  · exact .inl h2
  · refine .inr ⟨g, cap, rfl, hb, (Array.getElem?_eq_some_iff.1 hh).1, hn, fun j u hj => ?_, fun j hj => ?_⟩
    · rw [cell_of_row w g j cur e (0, 0) hh]
      rw [← hx, List.getElem?_take] at hj
      split at hj
      · simpa using hj
      · cases hj
    · rw [cell_of_row w g j cur e (0, 0) hh]
      refine ⟨by simp; omega, by simp [World.frozen?, hh]⟩
theorem of_bytes (s : ByteArray) (w0 : World) (e : TypeId) (cap : Nat) (hc : s.size ≤ cap) (hb : base ≤ w0.heap.size) :
    Own (w0.drew.alloc (.cells (bytesRow s cap) e ((bytesRow s cap).size, (bytesRow s cap).size + 1))) base 1 (.slice (some ⟨w0.heap.size, 0, none⟩) s.size cap) s.size (bv s.data.toList).toList := by
  have hnew := heap_alloc_new w0.drew (Obj.cells (bytesRow s cap) e ((bytesRow s cap).size, (bytesRow s cap).size + 1))
  have hsz : (bytesRow s cap).size = cap := by
    have : s.data.size = s.size := rfl
    simp [bytesRow, this]; omega
  refine ⟨by simp [bv], .inr ⟨w0.heap.size, cap, rfl, hb, by simp, hc, fun j u hj => ?_, fun j hj => ?_⟩⟩
  · have := bytes_range s _ w0.heap.size cap _ _ hnew j u hj
    rwa [Nat.zero_add] at this
  · rw [cell_of_row _ w0.heap.size j _ e _ hnew]
    refine ⟨by simp; omega, ?_⟩
    simp only [World.frozen?]
    have hn' : (w0.drew.alloc (Obj.cells (bytesRow s cap) e ((bytesRow s cap).size, (bytesRow s cap).size + 1))).heap[w0.heap.size]? = _ := hnew
    rw [hn']
    simp
    omega
/-- A slice that holds something is told by its block. -/
theorem form (h : Own w base size v n xs) (hn : 0 < n) : ∃ g cap, v = .slice (some ⟨g, 0, none⟩) n cap ∧ base ≤ g ∧ g < w.heap.size ∧ n ≤ cap ∧ ∀ j u, xs[j]? = some u → w.cell? ⟨g, j, none⟩ = some u := by
  rcases h.2 with ⟨_, h0⟩ | ⟨g, cap, hv, hb, hg, hc, hx, _⟩
  · omega
  · exact ⟨g, cap, hv, hb, hg, hc, hx⟩
theorem cells {g cap : Nat} (h : Own w base size (.slice (some ⟨g, 0, none⟩) n cap) n xs) (j : Nat) (u : Value) (hj : xs[j]? = some u) : w.cell? ⟨g, j, none⟩ = some u := by
  rcases h.2 with ⟨h1, _⟩ | ⟨g', cap', hv, hb, hg, hc, hx, _⟩
  · cases h1
  · cases hv
    exact hx j u hj
theorem free {g cap : Nat} (h : Own w base size (.slice (some ⟨g, 0, none⟩) n cap) n xs) (j : Nat) (hj : j < cap * size) : w.frozen? ⟨g, j, none⟩ = false := by
  rcases h.2 with ⟨h1, _⟩ | ⟨g', cap', hv, hb, hg, hc, hx, hf⟩
  · cases h1
  · cases hv
    exact (hf j hj).2
theorem stored {g cap : Nat} (h : Own w base size (.slice (some ⟨g, 0, none⟩) n cap) n xs) (j : Nat) (u : Value) : Own (w.setCell ⟨g, j, none⟩ u) base size (.slice (some ⟨g, 0, none⟩) n cap) n (xs.set j u) := by
  rcases h.2 with ⟨h1, _⟩ | ⟨g', cap', hv, hb, hg, hc, hx, hf⟩
  · cases h1
  · cases hv
    refine ⟨by simpa using h.1, .inr ⟨g, cap, rfl, hb, by simpa using hg, hc, fun i y hi => ?_, fun i hi => ?_⟩⟩
    · rw [List.getElem?_set] at hi
      by_cases e : j = i
      · subst e
        rw [if_pos rfl] at hi
        by_cases hl : j < xs.length
        · rw [if_pos hl] at hi
          have hh := hf j (by have := h.1; have : n * size ≤ cap * size := Nat.mul_le_mul_right _ hc; omega)
          obtain ⟨y0, hy0⟩ := Option.isSome_iff_exists.1 hh.1
          rw [World.cell?_setCell_same _ _ _ hy0]
          exact hi
        · rw [if_neg hl] at hi; cases hi
      · rw [if_neg e] at hi
        rw [World.cell?_setCell_other _ _ _ _ (by simp)]
        exact hx i y hi
    · rw [World.frozen?_setCell]
      by_cases e : j = i
      · subst e
        obtain ⟨y0, hy0⟩ := Option.isSome_iff_exists.1 (hf j hi).1
        rw [World.cell?_setCell_same _ _ _ hy0]
        exact ⟨rfl, (hf j hi).2⟩
      · rw [World.cell?_setCell_other _ _ _ _ (by simp)]
        exact hf i hi
end Own

theorem Blk.grown {w w' : World} {b : Nat} {cs : Array Value} {T : TypeId} (h : Blk w b cs T) {row : Option Nat} (hg : w.grownBy w' row) (hne : row ≠ some b) : Blk w' b cs T := by
  unfold Blk
  rw [hg.block b h.lt (fun e => hne e.symm)]; exact h
theorem setCells_block (b : Nat) : ∀ (vs : List Value) (o : Nat) (w : World) (k : Nat), k ≠ b → (w.setCells b o vs).heap[k]? = w.heap[k]?
  | [], _, _, _, _ => rfl
  | v :: r, o, w, k, h => by
    rw [World.setCells, setCells_block b r (o + 1) _ k h]
    exact Below.heap_setCell _ _ _ _ h
theorem setCells_size (b : Nat) : ∀ (vs : List Value) (o : Nat) (w : World), (w.setCells b o vs).heap.size = w.heap.size
  | [], _, _ => rfl
  | v :: r, o, w => by rw [World.setCells, setCells_size b r (o + 1)]; simp
theorem setCells_rest (b : Nat) : ∀ (vs : List Value) (o : Nat) (w : World), (w.setCells b o vs).os = w.os ∧ (w.setCells b o vs).tape = w.tape ∧ (w.setCells b o vs).output = w.output
  | [], _, _ => ⟨rfl, rfl, rfl⟩
  | v :: r, o, w => by rw [World.setCells]; exact setCells_rest b r (o + 1) _
theorem setCells_grown (b : Nat) (vs : List Value) (o : Nat) (w : World) : w.grownBy (w.setCells b o vs) (some b) :=
  ⟨(setCells_rest b vs o w).1, (setCells_rest b vs o w).2.1, (setCells_rest b vs o w).2.2, by rw [setCells_size]; exact Nat.le_refl _, fun k _ hne => setCells_block b vs o w k (fun e => hne (by rw [e]))⟩

/-- 'append(out, news...)', out such a slice: whether there is room or not, it is such a slice then, one that holds news behind what it held; and what it held is still read where it was. -/
theorem run_own_append {P : Program} {w : World} (t ty : TypeId)
    (e : TypeId) (i : TypeInfo) (z : Value) (size bytes : Nat) (h1 : P.underlying t = some (.slice e)) (h2 : P.info? e = some i) (h3 : i.zero = some z) (h4 : i.size = size) (h5 : i.bytes = bytes) (h6 : z.cells.size = size) (h7 : 0 < size)
    (base n : Nat) (v : Value) (xs : List Value) (hv : Own w base size v n xs) (hbase : base ≤ w.heap.size)
    (ad : Addr) (m c : Nat) (news : List Value) (hn : news.length = m * size) (hc : ∀ j u, news[j]? = some u → w.cell? (ad.add j) = some u) (h1c : ∀ u ∈ news, u.oneCell' = true)
    (b1 : n + m ≤ maxLen) (b2 : (n + m) * bytes ≤ 140737488355328) :
    ∃ v' w', (Builtin.append_ #[t, t] ty #[v, .slice (some ad) m c]).run P w = .ok v' w' ∧ Own w' base size v' (n + m) (xs ++ news) ∧ w.grownBy w' v.ownBlock ∧
      (∀ k, v'.ownBlock = some k → v.ownBlock = some k ∨ w.heap.size ≤ k) ∧ (∀ g, v.ownBlock = some g → ∀ j u, xs[j]? = some u → w'.cell? ⟨g, j, none⟩ = some u) := by
  rcases hv.2 with ⟨rfl, rfl⟩ | ⟨g, cap, rfl, hb, hgl, hcap, hxs, hf⟩
  · have hxs0 : xs = [] := List.eq_nil_of_length_eq_zero (by have := hv.1; simpa using this)
    subst hxs0
    obtain ⟨v', w', hr, r1, r2, _⟩ := run_append_own (P := P) w w.heap.size t ty e i z size bytes h1 h2 h3 h4 h5 h6 h7 (.slice none 0 0) 0 [] (World.ownsRow_nil w _ e size) ad m c news hn hc h1c b1 b2 (Nat.le_refl _)
    refine ⟨v', w', hr, ?_, r2, fun k hk => .inr (r1.lt k hk).1, fun g hg => by simp [Value.ownBlock] at hg⟩
    refine Own.of_row (e := e) ⟨r1.1, ?_⟩
    rcases r1.2 with r3 | ⟨g', cap', cur, r3, r4, r5⟩
    · exact .inl r3
    · exact .inr ⟨g', cap', cur, r3, by omega, r5⟩
  · have hmul : n * size ≤ cap * size := Nat.mul_le_mul_right _ hcap
    by_cases hr : n + m ≤ cap
    · have hr' : (n + m) * size ≤ cap * size := Nat.mul_le_mul_right _ hr
      rw [Nat.add_mul] at hr'
      subst h4
      have hrun := run_append_room_cells (P := P) w t ty e i h1 h2 g 0 n cap ad m c news hn hc h1c hr (fun j hj => by rw [Nat.zero_add]; exact (hf _ (by omega)).1) (fun j hj => by rw [Nat.zero_add]; exact (hf _ (by omega)).2)
      rw [Nat.zero_add] at hrun
      have hold : ∀ j u, xs[j]? = some u → (w.setCells g (n * i.size) news).cell? ⟨g, j, none⟩ = some u := fun j u hj => by
        have hjl : j < xs.length := (List.getElem?_eq_some_iff.1 hj).1
        rw [World.cell?_setCells_out g news (n * i.size) w ⟨g, j, none⟩ (fun _ _ => .inl (by have := hv.1; simp; omega))]
        exact hxs j u hj
      refine ⟨_, _, hrun, ⟨by rw [List.length_append, hv.1, hn, Nat.add_mul], .inr ⟨g, cap, rfl, hb, by rw [setCells_size]; exact hgl, hr, fun j u hj => ?_, fun j hj => ?_⟩⟩, setCells_grown _ _ _ _, fun k hk => .inl hk, fun g' hg' => ?_⟩
      · by_cases hjl : j < xs.length
        · rw [List.getElem?_append_left hjl] at hj
          exact hold j u hj
        · rw [List.getElem?_append_right (by omega)] at hj
          have hjn : j - xs.length < news.length := (List.getElem?_eq_some_iff.1 hj).1
          have := World.cell?_setCells_in g news (n * i.size) w (fun i' hi => (hf _ (by omega)).1) (j - xs.length) hjn
          rw [show n * i.size + (j - xs.length) = j by have := hv.1; omega] at this
          rw [this]
          rw [List.getElem?_eq_getElem hjn] at hj
          exact hj
      · rw [World.frozen?_setCells]
        refine ⟨?_, (hf j hj).2⟩
        by_cases hj2 : n * i.size ≤ j ∧ j < n * i.size + news.length
        · have := World.cell?_setCells_in g news (n * i.size) w (fun i' hi => (hf _ (by omega)).1) (j - n * i.size) (by omega)
          rw [show n * i.size + (j - n * i.size) = j by omega] at this
          rw [this]; rfl
        · rw [World.cell?_setCells_out g news (n * i.size) w ⟨g, j, none⟩ (fun _ _ => by simp; omega)]
          exact (hf j hj).1
      · have : g = g' := by simpa [Value.ownBlock] using hg'
        subst this
        exact hold
    · obtain ⟨v', w', hrun, r1, r2⟩ := run_append_arg_grows (P := P) w t ty e i z size bytes h1 h2 h3 h4 h5 h6 h7 ⟨g, 0, none⟩ n cap xs hv.1 (fun j u hj => by rw [Addr.add_lit, Nat.zero_add]; exact hxs j u hj) ad m c news hn hc (by omega) b1 b2
      refine ⟨v', w', hrun, ?_, ⟨r2.os, r2.tape, r2.output, r2.size, fun k hk _ => r2.block k hk (by simp)⟩, fun k hk => .inr (r1.lt k hk).1, fun g' hg' j u hj => ?_⟩
      · refine Own.of_row (e := e) ⟨r1.1, ?_⟩
        rcases r1.2 with r3 | ⟨g', cap', cur, r3, r4, r5⟩
        · exact .inl r3
        · exact .inr ⟨g', cap', cur, r3, by omega, r5⟩
      · have : g = g' := by simpa [Value.ownBlock] using hg'
        subst this
        rw [World.cell?_of_block (w := w) (a := ⟨g, j, none⟩) (r2.block g hgl (by simp))]
        exact hxs j u hj

theorem own_wp_append {P : Program} {w : World} {o : Oper} {a : Act} {K : Act → World → Prop} {Q : Exit → Act → World → Prop}
    (s x : Operand) (t : TypeId) (hop : o.op = Op.call { callee := Callee.builtin Builtin.append, args := #[s, x], argTypes := #[t, t] })
    (e : TypeId) (i : TypeInfo) (z : Value) (size bytes : Nat) (h1 : P.underlying t = some (.slice e)) (h2 : P.info? e = some i) (h3 : i.zero = some z) (h4 : i.size = size) (h5 : i.bytes = bytes) (h6 : z.cells.size = size) (h7 : 0 < size)
    (base n : Nat) (v : Value) (xs : List Value) (hs : a.eval s = v) (hv : Own w base size v n xs) (hbase : base ≤ w.heap.size)
    (ad : Addr) (m c : Nat) (news : List Value) (hx : a.eval x = .slice (some ad) m c) (hn : news.length = m * size) (hc : ∀ j u, news[j]? = some u → w.cell? (ad.add j) = some u) (h1c : ∀ u ∈ news, u.oneCell' = true)
    (b1 : n + m ≤ maxLen) (b2 : (n + m) * bytes ≤ 140737488355328)
    (hK : ∀ v' w', Own w' base size v' (n + m) (xs ++ news) → w.grownBy w' v.ownBlock → (∀ k, v'.ownBlock = some k → v.ownBlock = some k ∨ w.heap.size ≤ k) → (∀ g, v.ownBlock = some g → ∀ j u, xs[j]? = some u → w'.cell? ⟨g, j, none⟩ = some u) → K (a.put o.dst v') w') :
    o.wp P a w K Q := by
  obtain ⟨v', w', hrun, r1, r2, r3, r4⟩ := run_own_append (P := P) t o.type e i z size bytes h1 h2 h3 h4 h5 h6 h7 base n v xs hv hbase ad m c news hn hc h1c b1 b2
  unfold Oper.wp
  simp [execOp, hop, resolve, invoke, builtin, hs, hx, hrun, Result.andThen]
  exact hK v' w' r1 r2 r3 r4

theorem own_append {P : Program} {w : World} {ops : Array Oper} {rest : List Oper} {o : Oper} {a : Act} {Q : Exit → Act → World → Prop}
    (hg : o.guard = none) (s x : Operand) (t : TypeId) (hop : o.op = Op.call { callee := Callee.builtin Builtin.append, args := #[s, x], argTypes := #[t, t] })
    (e : TypeId) (i : TypeInfo) (z : Value) (size bytes : Nat) (h1 : P.underlying t = some (.slice e)) (h2 : P.info? e = some i) (h3 : i.zero = some z) (h4 : i.size = size) (h5 : i.bytes = bytes) (h6 : z.cells.size = size) (h7 : 0 < size)
    (base n : Nat) (v : Value) (xs : List Value) (hs : a.eval s = v) (hv : Own w base size v n xs) (hbase : base ≤ w.heap.size)
    (ad : Addr) (m c : Nat) (news : List Value) (hx : a.eval x = .slice (some ad) m c) (hn : news.length = m * size) (hc : ∀ j u, news[j]? = some u → w.cell? (ad.add j) = some u) (h1c : ∀ u ∈ news, u.oneCell' = true)
    (b1 : n + m ≤ maxLen) (b2 : (n + m) * bytes ≤ 140737488355328)
    (hK : ∀ v' w', Own w' base size v' (n + m) (xs ++ news) → w.grownBy w' v.ownBlock → (∀ k, v'.ownBlock = some k → v.ownBlock = some k ∨ w.heap.size ≤ k) → (∀ g, v.ownBlock = some g → ∀ j u, xs[j]? = some u → w'.cell? ⟨g, j, none⟩ = some u) → wpList P ops Q rest (a.put o.dst v') w') :
    wpList P ops Q (o :: rest) a w :=
  wpList_plain hg fun _ hK' => own_wp_append s x t hop e i z size bytes h1 h2 h3 h4 h5 h6 h7 base n v xs hs hv hbase ad m c news hx hn hc h1c b1 b2 (fun v' w' r1 r2 r3 r4 => hK' _ _ (hK v' w' r1 r2 r3 r4))

/-- The same at a step of a region that draws its order. -/
theorem own_step {P : Program} {w : World} {ops : Array Oper} {o : Oper} {a : Act} {K : Act → World → Prop} {Q : Exit → Act → World → Prop} {E : Prop}
    (hg : o.guard = none) (s x : Operand) (t : TypeId) (hop : o.op = Op.call { callee := Callee.builtin Builtin.append, args := #[s, x], argTypes := #[t, t] })
    (e : TypeId) (i : TypeInfo) (z : Value) (size bytes : Nat) (h1 : P.underlying t = some (.slice e)) (h2 : P.info? e = some i) (h3 : i.zero = some z) (h4 : i.size = size) (h5 : i.bytes = bytes) (h6 : z.cells.size = size) (h7 : 0 < size)
    (base n : Nat) (v : Value) (xs : List Value) (hs : a.eval s = v) (hv : Own w base size v n xs) (hbase : base ≤ w.heap.size)
    (ad : Addr) (m c : Nat) (news : List Value) (hx : a.eval x = .slice (some ad) m c) (hn : news.length = m * size) (hc : ∀ j u, news[j]? = some u → w.cell? (ad.add j) = some u) (h1c : ∀ u ∈ news, u.oneCell' = true)
    (b1 : n + m ≤ maxLen) (b2 : (n + m) * bytes ≤ 140737488355328)
    (hK : ∀ v' w', Own w' base size v' (n + m) (xs ++ news) → w.grownBy w' v.ownBlock → (∀ k, v'.ownBlock = some k → v.ownBlock = some k ∨ w.heap.size ≤ k) → (∀ g, v.ownBlock = some g → ∀ j u, xs[j]? = some u → w'.cell? ⟨g, j, none⟩ = some u) → K (a.put o.dst v') w') :
    if Region.wanted o (yielded ops a.tmps) = true then Oper.wp P o a w K Q else E := by
  rw [if_pos (by simp [Region.wanted, hg])]
  exact own_wp_append s x t hop e i z size bytes h1 h2 h3 h4 h5 h6 h7 base n v xs hs hv hbase ad m c news hx hn hc h1c b1 b2 hK

/-- One new cell, in a block of its own. -/
theorem one_new (w : World) (u : Value) (T : TypeId) : ∀ j x, [u][j]? = some x → (w.alloc (.cells #[u] T)).cell? ((⟨w.heap.size, 0, none⟩ : Addr).add j) = some x := by
  intro j x hj
  match j, hj with
  | 0, hj =>
    simp at hj
    subst hj
    exact (Blk.new w #[u] T).cell (k := 0) rfl
theorem getD_app {α : Type} (d : α) (l m : List α) (j : Nat) (h : j < l.length) : (l ++ m).getD j d = l.getD j d := by
  rw [List.getD_eq_getElem?_getD, List.getD_eq_getElem?_getD, List.getElem?_append_left h]
theorem bvl_get (l : List UInt8) (j : Nat) (h : j < l.length) : (bv l).toList[j]? = some (.int .u8 (U8 (l.getD j 0))) := by
  simp [bv, h]
theorem bvl_app (l m : List UInt8) : (bv (l ++ m)).toList = (bv l).toList ++ (bv m).toList := by simp [bv]
/-- A window of a slice. -/
theorem slice_win {P : Program} (t e : TypeId) (ht : P.underlying t = some (.slice e)) (hz : ∀ w, (Go.sizeOf e).run P w = .ok 1 w) (b o len cap l h : Nat) (li hi : Int) (hl : li = (l : Int)) (hh : hi = (h : Int)) (hlh : l < h) (hc : h ≤ cap) (w : World) :
    (Instr.slice t (.slice (some ⟨b, o, none⟩) len cap) (some (.int .i64 li)) (some (.int .i64 hi)) none).run P w = .ok (.slice (some ⟨b, o + l, none⟩) (h - l) (cap - l)) w := by
  subst hl hh
  exact Lib.run_slice_window w t e ht hz b o len cap l h hlh hc
end Go.Proofs.Ytieooonobjkglaa
