/- A range over a function whose iterator keeps its state in a captured variable (a cell). The law for the caller, at the wide fence; the body never leaves early. No condition; no program in sight. -/
import Derived.Test.YtieooonobjkglaaQHold
import Derived.RangeFuncNested
import Derived.RangeFuncBound
import Derived.RangeFuncCalls
import Derived.RangeFuncLeaves
import Derived.RangeFuncFrom
namespace Go.Proofs.Ytieooonobjkglaa
open Go Go.RowKit SW
/-- Cells lie as they lay, and so does whatever lies below B. -/
structure KB (B : Nat) (W W' : World) : Prop where
  os : W'.os = W.os
  tape : W'.tape = W.tape
  output : W'.output = W.output
  size : W.heap.size ≤ W'.heap.size
  cells : ∀ (j : Nat) (cs : Array Value) (T : TypeId) (fr : Nat × Nat), W.heap[j]? = some (Obj.cells cs T fr) → W'.heap[j]? = some (Obj.cells cs T fr)
  low : ∀ j : Nat, j < B → W'.heap[j]? = W.heap[j]?
namespace KB
variable {B : Nat} {W W' W2 : World}
theorem of_below (h : Below W.heap.size W W') (hB : B ≤ W.heap.size) : KB B W W' :=
  ⟨h.os, h.tape, h.output, h.size, fun j _ _ _ e => (h.block j (Array.getElem?_eq_some_iff.1 e).1).trans e, fun j hj => h.block j (by omega)⟩
theorem of_put {l : Nat} {o o' : Obj} (hl : W.heap[l]? = some o) (ho : o.isCells = false) (hB : B ≤ l) : KB B W (W.putObj l o') := by
  refine ⟨rfl, rfl, rfl, by simp [World.putObj], fun j cs T fr e => ?_, fun j hj => World.putObj_heap_other (by omega)⟩
  have : j ≠ l := fun e' => by subst e'; rw [hl] at e; cases e; cases ho
  exact (World.putObj_heap_other this).trans e
theorem blk {b : Nat} {cs : Array Value} {T : TypeId} (h : KB B W W') (k : Blk W b cs T) : Blk W' b cs T := h.cells _ _ _ _ k
theorem below {w : World} (h : KB B W W') (hB : B = w.heap.size) (k : Below w.heap.size w W) : Below w.heap.size w W' :=
  ⟨h.os.trans k.os, h.tape.trans k.tape, h.output.trans k.output, Nat.le_trans k.size h.size, fun j hj => (h.low j (by omega)).trans (k.block j hj)⟩
theorem own {base size n : Nat} {v : Value} {xs : List Value} (h : KB B W W') (k : Own W base size v n xs) (hcell : ∀ g, v.ownBlock = some g → ∃ cs T fr, W.heap[g]? = some (Obj.cells cs T fr)) : Own W' base size v n xs :=
  k.block h.size fun g hg => by
    obtain ⟨cs, T, fr, e⟩ := hcell g hg
    exact (h.cells _ _ _ _ e).trans e.symm
end KB

/-- What an iterator gives that keeps its state in the cell of block Bn, which holds c0 when it begins: the elements xs, one by one, whatever J counts them. -/
def Rounds {α : Type} (n : Nat) (P : Program) (gf : Nat) (lb : Array Value) (encs : α → Array Value) (xs : List α) (Bn : Nat) (c0 : Obj) : Prop :=
  ∀ (l : Nat) (J : Nat → World → Prop) (W : World), W.heap[Bn]? = some c0 →
    (∀ k W1 W2, J k W1 → Below W1.heap.size W1 W2 → J k W2) → (∀ k W1 v, J k W1 → J k (W1.setCell ⟨Bn, 0, none⟩ v)) →
    (∀ k x W1, xs[k]? = some x → J k W1 → YieldAt Fence.wide (n - 1) P l (encs x) W1 fun e W' => e = .returned (.bool true) ∧ J (k + 1) W' ∧ ∀ o, W1.heap[Bn]? = some o → W'.heap[Bn]? = some o) →
    J 0 W →
    CallsIn Fence.wide n P gf (#[.func (.yield l) #[] #[]] ++ lb) W fun e W' => (∃ v, e = .returned v) ∧ J xs.length W'

theorem range_law {α : Type} {P : Program} {n : Nat} {g : Operand} {ps : Array Tmp} {assign body : Code} {Q : Exit → Act → World → Prop} {a : Act} {w : World} (h1 : 1 ≤ n)
    {gf : Nat} {lb : Array Value} (hg : a.eval g = .func (.func gf) #[] lb) (eg : ∀ args w, (callFunc gf args).run P w = .ok (.enter gf args) w)
    {encs : α → Array Value} {xs : List α} {Bn : Nat} {cs0 : Array Value} {T0 : TypeId} (hseq : Rounds (n - 1) P gf lb encs xs Bn (.cells cs0 T0 (0, 0))) (hBn : Blk w Bn cs0 T0) (hps : ∀ x, (encs x).size = ps.size)
    (I : Nat → World → Prop) (hI : ∀ k W W', I k W → KB w.heap.size W W' → I k W') (hIs : ∀ k W v, I k W → I k (W.setCell ⟨Bn, 0, none⟩ v)) (h0 : I 0 w) (a₁ : α → Act)
    (hassign : ∀ (l : Nat) (x : α) (W : World) (K : Act → World → Prop), K (a₁ x) W →
      assign.wpIn (Fence.wide.inRound l) (n - 1 - 1) P (Exit.then K (fun _ _ _ => False)) { tmps := (ps.zip (encs x)).foldl (fun t (p, v) => t.setIfInBounds p v) a.tmps, defers := [] } W)
    (hbody : ∀ (l k : Nat) (x : α) (W : World), xs[k]? = some x → I k W → w.heap.size ≤ W.heap.size →
      body.wpIn (Fence.wide.inRound l) (n - 1 - 1) P (fun e _ W' => e = .normal ∧ I (k + 1) W' ∧ W.heap.size ≤ W'.heap.size ∧ ∀ j o, W.heap[j]? = some o → (j = Bn ∨ o.isCells = false) → W'.heap[j]? = some o) (a₁ x) W)
    (hdone : ∀ (D : Nat) (W : World), w.heap.size ≤ D → I xs.length W → W.heap[D]? = some (.deferred (some [])) → Q .normal { a with defers := { target := .collected D, args := #[] } :: a.defers } W) :
    (Code.rangeFunc g ps assign body).wpIn Fence.wide n P Q a w := by
  refine wpIn_rangeFunc ?_
  intro fn hfn
  obtain ⟨rec, hrec⟩ : ∃ rec : LoopState → Option Code → Loop, rec = fun st pe => { state := st, pending := pe, fn, tmps := a.tmps, params := ps, assign, body, defers := w.heap.size } := ⟨_, rfl⟩
  obtain ⟨W1, hW1⟩ : ∃ W1, (w.alloc (.deferred (some []))).alloc (.loop (rec .ready none)) = W1 := ⟨_, rfl⟩
  have hb1 : Below w.heap.size w W1 := by
    rw [← hW1]; exact ((Below.refl _ w).alloc (Nat.le_refl _) _).alloc (by simp) _
  have hL1 : W1.heap[w.heap.size + 1]? = some (.loop (rec .ready none)) := by
    rw [← hW1]; have := World.alloc_heap_new (w.alloc (.deferred (some []))) (.loop (rec .ready none)); rwa [World.size_alloc] at this
  have hK1 : W1.heap[w.heap.size]? = some (.deferred (some [])) := by
    rw [← hW1]; exact (Below.heap_alloc _ _ _ (by simp)).trans (World.alloc_heap_new w _)
  have hbl := hBn.lt
  have hB1 : W1.heap[Bn]? = some (.cells cs0 T0 (0, 0)) := (hb1.block Bn hbl).trans hBn
  refine ⟨w.heap.size + 1, [{ target := .collected w.heap.size, args := #[] }], W1, { target := .fn (.func gf) lb, args := #[.func (.yield (w.heap.size + 1)) #[] #[]] }, W1, gf,
    #[.func (.yield (w.heap.size + 1)) #[] #[]] ++ lb, W1, ?_, ?_, fun _ _ => trivial, ?_, fun _ => h1, ?_⟩
  · rw [← hW1, hrec]; exact run_enterLoop_outer _ _ _ _ _
  · simp only [resolve, hg]
    simp [go_sem]
  · simp [invoke, go_sem, eg]
  · refine (hseq (w.heap.size + 1)
      (fun k W => I k W ∧ W.heap[w.heap.size + 1]? = some (.loop (rec .ready none)) ∧ W.heap[w.heap.size]? = some (.deferred (some [])))
      W1 hB1 ?_ ?_ ?_ ⟨hI _ _ _ h0 (KB.of_below hb1 (Nat.le_refl _)), hL1, hK1⟩).mono ?_
    · rintro k A A2 ⟨hi, hl, hd⟩ hb
      have hlt : w.heap.size + 1 < A.heap.size := (Array.getElem?_eq_some_iff.1 hl).1
      exact ⟨hI _ _ _ hi (KB.of_below hb (by omega)), (hb.block _ hlt).trans hl, (hb.block _ (by omega)).trans hd⟩
    · rintro k A v ⟨hi, hl, hd⟩
      exact ⟨hIs _ _ _ hi, (Below.heap_setCell _ _ _ _ (by simp; omega)).trans hl, (Below.heap_setCell _ _ _ _ (by simp; omega)).trans hd⟩
    · rintro k x W hx ⟨hi, hl, hk⟩
      have hlt : w.heap.size + 1 < W.heap.size := (Array.getElem?_eq_some_iff.1 hl).1
      have hy := run_yield (P := P) (args := encs x) hl (by rw [hrec]; exact hps x)
      rw [hrec] at hy
      refine ⟨fn, _, assign, body, hy, roundIn_of_wpIn trivial (hassign _ x W _ ⟨_, run_beginRound hl (by rw [hrec]), ?_⟩)⟩
      have hl2 : (W.putObj (w.heap.size + 1) (.loop { rec .ready none with state := .busy })).heap[w.heap.size + 1]? = some (.loop { rec .ready none with state := .busy }) := World.putObj_heap_same hlt
      have hk2 : (W.putObj (w.heap.size + 1) (.loop { rec .ready none with state := .busy })).heap[w.heap.size]? = some (.deferred (some [])) := (World.putObj_heap_other (by omega)).trans hk
      have hsz2 : (W.putObj (w.heap.size + 1) (.loop { rec .ready none with state := .busy })).heap.size = W.heap.size := by simp [World.putObj]
      refine wpIn_mono (hbody _ k x _ hx (hI _ _ _ hi (KB.of_put hl rfl (by omega))) (by rw [hsz2]; omega)) ?_
      rintro e a3 W3 ⟨rfl, hi3, hs3, hk3⟩
      have hl3 := hk3 _ _ hl2 (.inr rfl)
      have hr := run_endRound (P := P) none hl3
      have hlt3 : w.heap.size + 1 < W3.heap.size := (Array.getElem?_eq_some_iff.1 hl3).1
      refine ⟨_, _, hr, rfl, ⟨hI _ _ _ hi3 (KB.of_put hl3 rfl (by omega)), ?_, ?_⟩, fun o ho => ?_⟩
      · rw [World.putObj_heap_same hlt3, hrec]; rfl
      · exact (World.putObj_heap_other (by omega)).trans (hk3 _ _ hk2 (.inr rfl))
      · refine (World.putObj_heap_other (by omega)).trans (hk3 _ _ ?_ (.inl rfl))
        exact (World.putObj_heap_other (by omega)).trans ho
    · rintro e W2 ⟨⟨v, rfl⟩, hi, hl, hk⟩
      refine ⟨none, _, by have := run_endLoop (P := P) hl (by rw [hrec]; simp); rw [hrec] at this; exact this, hdone _ _ (Nat.le_refl _) (hI _ _ _ hi (KB.of_put hl rfl (by omega))) ((World.putObj_heap_other (by omega)).trans hk)⟩
end Go.Proofs.Ytieooonobjkglaa
