/- A range over the blocks: the law for the caller. -/
import Derived.Test.YtmineipjnllopaaE4
import Derived.Shelf.Abstract
namespace Go.Proofs.Ytmineipjnllopaa
open Go.RowKit Go.Shelf
set_option linter.unusedVariables false

/-- It stands whatever becomes of an object that is no cells. -/
def Calm (B : Nat) (I : World → Prop) : Prop := ∀ (W : World) (l : Nat) (o o' : Obj), I W → B ≤ l → W.heap[l]? = some o → o.isCells = false → I (W.putObj l o')
theorem others_of_keeps {W W' : World} {T : Nat → Prop} (k : Keeps W W' T) (hT : ∀ j o, T j → W.heap[j]? = some o → o.isCells = true) : KeepsOthers W W' :=
  ⟨k.size, fun j o hj ho => k.heap hj (fun t => by rw [hT j o t hj] at ho; cases ho)⟩
theorem others_of_below {W W' : World} (b : Below W.heap.size W W') : KeepsOthers W W' := others_of_keeps (Keeps.of_below b (S := fun _ => False)) (fun _ _ h => h.elim)

/-- How a round's body may be left. -/
def xPost (IB Ix : World → Prop) (W : World) : Exit → Act → World → Prop
  | .normal, _, W' => KeepsOthers W W' ∧ IB W'
  | .ret, _, W' => KeepsOthers W W' ∧ Ix W'
  | _, _, _ => False

theorem range_blocks {g : Operand} {assign body : Code} {Q : Exit → Act → World → Prop} {a : Act} {w : World} {ks ns : List Int} {c : Int}
    (hk : ks.length = 32) (hn : ns.length = 12) (bk : Bytes ks) (bn : Bytes ns) (n N B Bk : Nat) (hBw : B ≤ w.heap.size)
    (hg : a.eval g = .func (.func 24) #[] #[.pointer (some ⟨Bk, 0, none⟩), .pointer (some ⟨Bk + 1, 0, none⟩), .pointer (some ⟨Bk + 1 + 1, 0, none⟩)])
    (I IB : Nat → World → Prop) (Ix : World → Prop) (hI : ∀ i, Calm B (I i)) (hIB : ∀ i, Calm B (IB i)) (hIx : Calm B Ix)
    (h1 : ∀ i W, I i W → IterAt W ks ns Bk (Bk + 1) (Bk + 1 + 1) (ctr c i))
    (h2 : ∀ i W W', I i W → Below W.heap.size W W' → I i W')
    (hB : ∀ i W, IB i W → i < N ∧ W.heap[Bk + 1 + 1]? = some (.cells #[.int .u32 (ctr c i)] 24 (0, 0)) ∧ I (i + 1) (W.setCell ⟨Bk + 1 + 1, 0, none⟩ (.int .u32 (ctr c (i + 1)))))
    (h0 : I 0 w) (a₁ : Nat → Nat → Act)
    (hassign : ∀ (l i : Nat) (W : World) (K : Act → World → Prop), I i W → (∀ X W', W'.heap[X]? = some (.cells (ints (blk ks ns (ctr c i))).toArray 32 (0, 0)) → I i W' → KeepsOthers W W' → K (a₁ i X) W') →
      assign.wpIn (Fence.wide.inRound l) (n - 1 - 1) Try.prog (Exit.then K (fun _ _ _ => False)) { tmps := ((#[23] : Array Tmp).zip #[Value.agg (ints (blk ks ns (ctr c i))).toArray]).foldl (fun t (p, v) => t.setIfInBounds p v) a.tmps, defers := [] } W)
    (hbody : ∀ (l i X : Nat) (W : World), W.heap[X]? = some (.cells (ints (blk ks ns (ctr c i))).toArray 32 (0, 0)) → I i W → body.wpIn (Fence.wide.inRound l) (n - 1 - 1) Try.prog (xPost (IB i) Ix W) (a₁ i X) W)
    (hstop : ∀ (D : Nat) (W : World), w.heap.size ≤ D → Ix W → W.heap[D]? = some (.deferred (some [])) → Code.ret.wpIn Fence.wide n Try.prog Q { a with defers := { target := .collected D, args := #[] } :: a.defers } W) :
    (Code.rangeFunc g #[23] assign body).wpIn Fence.wide n Try.prog Q a w := by
  refine wpIn_rangeFunc ?_
  intro fn hfn
  obtain ⟨rec, hrec⟩ : ∃ rec : LoopState → Option Code → Loop, rec = fun st pe => { state := st, pending := pe, fn, tmps := a.tmps, params := #[23], assign, body, defers := w.heap.size } := ⟨_, rfl⟩
  obtain ⟨W1, hW1⟩ : ∃ W1, (w.alloc (.deferred (some []))).alloc (.loop (rec .ready none)) = W1 := ⟨_, rfl⟩
  have hL1 : W1.heap[w.heap.size + 1]? = some (.loop (rec .ready none)) := by
    rw [← hW1]; exact heap_new_at _ _ _ (by simp)
  have hK1 : W1.heap[w.heap.size]? = some (.deferred (some [])) := by
    rw [← hW1]; exact (heap_old_at _ _ _ (by simp)).trans (heap_new_at _ _ _ rfl)
  have hb1 : Below w.heap.size w W1 := by rw [← hW1]; exact ((Below.refl _ w).alloc (Nat.le_refl _) _).alloc (by simp) _
  have hI1 : I 0 W1 := h2 0 w W1 h0 hb1
  refine ⟨w.heap.size + 1, [{ target := .collected w.heap.size, args := #[] }], W1, { target := .fn (.func 24) #[.pointer (some ⟨Bk, 0, none⟩), .pointer (some ⟨Bk + 1, 0, none⟩), .pointer (some ⟨Bk + 1 + 1, 0, none⟩)], args := #[.func (.yield (w.heap.size + 1)) #[] #[]] }, W1, 24,
    #[.func (.yield (w.heap.size + 1)) #[] #[], .pointer (some ⟨Bk, 0, none⟩), .pointer (some ⟨Bk + 1, 0, none⟩), .pointer (some ⟨Bk + 1 + 1, 0, none⟩)], W1, ?_, ?_, ?_, ?_, (fun hs => nomatch hs), ?_⟩
  · rw [← hW1, hrec]; exact run_enterLoop_outer _ _ _ _ _
  · simp only [resolve, hg]
    simp [go_sem]
  · intro f' hf'; trivial
  · simp [invoke, go_sem]
  · refine (iter_ok ks ns c hk hn bk bn (n - 1) (w.heap.size + 1) N Bk (Bk + 1) (Bk + 1 + 1)
      (fun i W => I i W ∧ W.heap[w.heap.size + 1]? = some (.loop (rec .ready none)) ∧ W.heap[w.heap.size]? = some (.deferred (some [])))
      (fun i W => IB i W ∧ W.heap[w.heap.size + 1]? = some (.loop (rec .ready none)) ∧ W.heap[w.heap.size]? = some (.deferred (some [])))
      (fun W => Ix W ∧ W.heap[w.heap.size + 1]? = some (.loop (rec .done (some .ret))) ∧ W.heap[w.heap.size]? = some (.deferred (some [])))
      (fun i W h => h1 i W h.1)
      (fun i W W' h b => ⟨h2 i W W' h.1 b, (b.block _ (heap_lt h.2.1)).trans h.2.1, (b.block _ (heap_lt h.2.2)).trans h.2.2⟩)
      ?_
      (fun i W h => by
        obtain ⟨b1, b2, b3⟩ := hB i W h.1
        have k := Keeps.setCell W ⟨Bk + 1 + 1, 0, none⟩ (.int .u32 (ctr c (i + 1))) (S := fun k => k = Bk + 1 + 1) rfl
        exact ⟨b1, b2, b3, k.heap h.2.1 (fun e => by rw [e] at h; rw [b2] at h; exact absurd h.2.1 (by simp)), k.heap h.2.2 (fun e => by rw [e] at h; rw [b2] at h; exact absurd h.2.2 (by simp))⟩)
      W1 ⟨hI1, hL1, hK1⟩).mono ?_
    · -- one round
      rintro i W ⟨hi, hl, hkd⟩
      have hy := run_yield (P := Try.prog) (args := #[Value.agg (ints (blk ks ns (ctr c i))).toArray]) hl (by rw [hrec]; rfl)
      rw [hrec] at hy
      refine ⟨fn, _, assign, body, hy, roundIn_of_wpIn hfn (hassign _ i W _ hi ?_)⟩
      intro X W2 hX hi2 ko
      have hl2 := ko.same _ _ hl rfl
      have hk2 := ko.same _ _ hkd rfl
      have hlt := heap_lt hl2
      refine ⟨_, run_beginRound hl2 (by rw [hrec]), ?_⟩
      have hX3 : (W2.putObj (w.heap.size + 1) (.loop { rec .ready none with state := .busy })).heap[X]? = some (.cells (ints (blk ks ns (ctr c i))).toArray 32 (0, 0)) :=
        (keeps_putObj W2 (w.heap.size + 1) _).heap hX (fun e => by rw [e, hl2] at hX; cases hX)
      have hi3 := hI i W2 (w.heap.size + 1) _ (.loop { rec .ready none with state := .busy }) hi2 (by omega) hl2 rfl
      have hl3 : (W2.putObj (w.heap.size + 1) (.loop { rec .ready none with state := .busy })).heap[w.heap.size + 1]? = some (.loop { rec .ready none with state := .busy }) := World.putObj_heap_same hlt
      have hk3 : (W2.putObj (w.heap.size + 1) (.loop { rec .ready none with state := .busy })).heap[w.heap.size]? = some (.deferred (some [])) := (World.putObj_heap_other (by omega)).trans hk2
      refine wpIn_mono (hbody _ i X _ hX3 hi3) ?_
      rintro e a3 W3 hp
      cases e with
      | normal =>
        obtain ⟨ko3, hi4⟩ := hp
        have hl4 := ko3.same _ _ hl3 rfl
        have hk4 := ko3.same _ _ hk3 rfl
        have hr := run_endRound (P := Try.prog) none hl4
        have hr' : (Instr.endRound (w.heap.size + 1) none).run Try.prog W3 = .ok (.bool true) (W3.putObj (w.heap.size + 1) (.loop (rec .ready none))) := by rw [hr, hrec]; rfl
        exact ⟨_, _, hr', .inl ⟨rfl, hIB i W3 _ _ _ hi4 (by omega) hl4 rfl, World.putObj_heap_same (heap_lt hl4), (World.putObj_heap_other (by omega)).trans hk4⟩⟩
      | ret =>
        obtain ⟨ko3, hi4⟩ := hp
        have hl4 := ko3.same _ _ hl3 rfl
        have hk4 := ko3.same _ _ hk3 rfl
        have hr := run_endRound (P := Try.prog) (some .ret) hl4
        have hr' : (Instr.endRound (w.heap.size + 1) (some .ret)).run Try.prog W3 = .ok (.bool false) (W3.putObj (w.heap.size + 1) (.loop (rec .done (some .ret)))) := by rw [hr, hrec]; rfl
        exact ⟨_, _, hr', .inr ⟨rfl, hIx W3 _ _ _ hi4 (by omega) hl4 rfl, World.putObj_heap_same (heap_lt hl4), (World.putObj_heap_other (by omega)).trans hk4⟩⟩
      | exit id => exact hp.elim
      | goto t => exact hp.elim
      | panic ch => exact hp.elim
      | outgrown => exact hp.elim
    · -- behind the iterator
      rintro e W2 ⟨⟨v, rfl⟩, hi, hl, hkd⟩
      refine ⟨some .ret, _, by have := run_endLoop (P := Try.prog) hl (by rw [hrec]; simp); rw [hrec] at this; exact this, hstop _ _ (Nat.le_refl _) (hIx W2 _ _ _ hi (by omega) hl rfl) ((World.putObj_heap_other (by omega)).trans hkd)⟩
end Go.Proofs.Ytmineipjnllopaa
