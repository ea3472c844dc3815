/- What Xor keeps between two steps. -/
import Derived.Test.YtmineipjnllopaaE3
namespace Go.Proofs.Ytmineipjnllopaa
open Go.RowKit
set_option linter.unusedVariables false

/-- The stream's byte j. -/
def sb (ks ns : List Int) (c : Int) (j : Nat) : Int := (blk ks ns (ctr c (j / 64))).getD (j % 64) 0
/-- The first m bytes of bs with the stream. -/
def xorL (ks ns : List Int) (c : Int) (bs : List Int) : Nat → List Int
  | 0 => []
  | m + 1 => xorL ks ns c bs m ++ [xr (bs.getD m 0) (sb ks ns c m)]
theorem xorL_length (ks ns : List Int) (c : Int) (bs : List Int) : ∀ m, (xorL ks ns c bs m).length = m
  | 0 => rfl
  | m + 1 => by simp [xorL, xorL_length ks ns c bs m]
theorem sb_byte (ks ns : List Int) (c : Int) (j : Nat) : Byte (sb ks ns c j) := (blk_bytes ks ns _).at_ (by rw [blk_length]; omega)
theorem xr_byte {x y : Int} (hx : Byte x) (hy : Byte y) : Byte (xr x y) := by
  unfold Byte xr at *
  have h : x.toNat ^^^ y.toNat < 2 ^ 8 := Nat.xor_lt_two_pow (by omega) (by omega)
  omega
theorem bits_xr8 {x y : Int} (hx : Byte x) (hy : Byte y) : bits .xor .u8 x y = xr x y := u8_xor x y hx.1 (by have := hx.2; omega) hy.1 (by have := hy.2; omega)
theorem xorL_bytes (ks ns : List Int) (c : Int) {bs : List Int} (hb : Bytes bs) : ∀ m, m ≤ bs.length → Bytes (xorL ks ns c bs m)
  | 0, _ => fun x hx => by cases hx
  | m + 1, hm => fun x hx => by
    rcases List.mem_append.1 hx with h | h
    · exact xorL_bytes ks ns c hb m (by omega) x h
    · rw [List.mem_singleton.1 h]; exact xr_byte (hb.at_ (by omega)) (sb_byte ks ns c m)

theorem own_type {W : World} {g m cc : Nat} {xs : List Int} (h : Own W (.slice (some ⟨g, 0, none⟩) m cc) xs) : ∃ cur, W.heap[g]? = some (.cells cur 5 (0, 0)) := by
  rcases h.2 with ⟨e, _⟩ | ⟨g', cap, cur, e, _, hg, _⟩
  · cases e
  · cases e; exact ⟨cur, hg⟩
theorem ne_type {W : World} {g g' : Nat} {cs cs' : Array Value} {t t' : TypeId} {f f' : Nat × Nat} (h : W.heap[g]? = some (.cells cs t f)) (h' : W.heap[g']? = some (.cells cs' t' f')) (hne : t ≠ t') : g ≠ g' := by
  rintro rfl
  rw [h] at h'
  injection h' with h'
  injection h' with _ ht
  exact hne ht

structure XS (w : World) (ks ns bs : List Int) (c : Int) (b0 : Option Addr) (n cp Bo Bk i m : Nat) (W : World) : Prop where
  below : Below w.heap.size w W
  src : W.heap[w.heap.size + 1 + 1]? = some (.cells #[.slice b0 n cp] 25 (0, 0))
  res : W.heap[w.heap.size + 1 + 1 + 1]? = some (.cells #[.slice none 0 0] 25 (0, 0))
  out : ∃ g cc, W.heap[Bo]? = some (.cells #[.slice (some ⟨g, 0, none⟩) m cc] 25 (0, 0)) ∧ Own W (.slice (some ⟨g, 0, none⟩) m cc) (xorL ks ns c bs m) ∧ w.heap.size ≤ g
  it : IterAt W ks ns Bk (Bk + 1) (Bk + 1 + 1) (ctr c i)
  le : m ≤ n
  far : w.heap.size + 1 + 1 + 1 < Bo
  farK : w.heap.size ≤ Bk

section
variable {w W W' : World} {ks ns bs : List Int} {c : Int} {b0 : Option Addr} {n cp Bo Bk i m : Nat}

theorem below_keeps {B : Nat} {T : Nat → Prop} (h : Below B w W) (k : Keeps W W' T) (hB : B ≤ W.heap.size) (hT : ∀ j, T j → B ≤ j) : Below B w W' :=
  ⟨k.os.trans h.os, k.tape.trans h.tape, k.output.trans h.output, Nat.le_trans h.size k.size, fun j hj => (k.block j (by omega) (fun t => by have := hT j t; omega)).trans (h.block j hj)⟩

/-- It stands behind whatever turns none of its blocks. -/
theorem XS.keeps {T : Nat → Prop} (h : XS w ks ns bs c b0 n cp Bo Bk i m W) (k : Keeps W W' T) (hT : ∀ j, T j → w.heap.size ≤ j) (hn : ∀ j cs t f, T j → W.heap[j]? = some (.cells cs t f) → t ≠ 25 ∧ t ≠ 5 ∧ t ≠ 23 ∧ t ≠ 29 ∧ t ≠ 24) : XS w ks ns bs c b0 n cp Bo Bk i m W' := by
  have no : ∀ {g : Nat} {cs : Array Value} {t : TypeId} {f : Nat × Nat}, W.heap[g]? = some (.cells cs t f) → (t = 25 ∨ t = 5 ∨ t = 23 ∨ t = 29 ∨ t = 24) → W'.heap[g]? = some (.cells cs t f) := fun hg ht => k.heap hg (fun t => by
    obtain ⟨a1, a2, a3, a4, a5⟩ := hn _ _ _ _ t hg
    rcases ht with e | e | e | e | e
    · exact a1 e
    · exact a2 e
    · exact a3 e
    · exact a4 e
    · exact a5 e)
  obtain ⟨g, cc, o1, o2, o3⟩ := h.out
  refine ⟨below_keeps h.below k h.below.size hT, no h.src (.inl rfl), no h.res (.inl rfl), ⟨g, cc, no o1 (.inl rfl), k.owns o2 (fun j hj ht => ?_), o3⟩, ⟨no h.it.key (.inr (.inr (.inl rfl))), no h.it.nonce (.inr (.inr (.inr (.inl rfl)))), no h.it.count (.inr (.inr (.inr (.inr rfl))))⟩, h.le, h.far, h.farK⟩
  obtain ⟨cur, hg⟩ := own_type o2
  have : j = g := by simpa [Value.ownBlock] using hj.symm
  subst this
  exact (hn _ _ _ _ ht hg).2.1 rfl

theorem XS.later (h : XS w ks ns bs c b0 n cp Bo Bk i m W) (b : Below W.heap.size W W') : XS w ks ns bs c b0 n cp Bo Bk i m W' :=
  h.keeps (Keeps.of_below b (S := fun _ => False)) (fun _ h => h.elim) (fun _ _ _ _ h => h.elim)

/-- The counter has gone on. -/
theorem XS.count (h : XS w ks ns bs c b0 n cp Bo Bk i m W) : XS w ks ns bs c b0 n cp Bo Bk (i + 1) m (W.setCell ⟨Bk + 1 + 1, 0, none⟩ (.int .u32 (ctr c (i + 1)))) := by
  have k := Keeps.setCell W ⟨Bk + 1 + 1, 0, none⟩ (.int .u32 (ctr c (i + 1))) (S := fun k => k = Bk + 1 + 1) rfl
  obtain ⟨g, cc, o1, o2, o3⟩ := h.out
  obtain ⟨cur, hg⟩ := own_type o2
  have n1 := ne_type h.src h.it.count (by decide)
  have n2 := ne_type h.res h.it.count (by decide)
  have n3 := ne_type o1 h.it.count (by decide)
  have n4 := ne_type hg h.it.count (by decide)
  have n5 := ne_type h.it.key h.it.count (by decide)
  have n6 := ne_type h.it.nonce h.it.count (by decide)
  refine ⟨below_keeps h.below k h.below.size (fun j hj => by have := h.farK; omega), k.heap h.src n1, k.heap h.res n2, ⟨g, cc, k.heap o1 n3, k.owns o2 (fun j hj => ?_), o3⟩, ⟨k.heap h.it.key n5, k.heap h.it.nonce n6, ?_⟩, h.le, h.far, h.farK⟩
  · have : j = g := by simpa [Value.ownBlock] using hj.symm
    omega
  · rw [heap_setCell_at h.it.count]
    rfl

/-- One byte more. -/
theorem XS.more {W2 : World} {g cc cc' n' : Nat} {a' : Option Addr} {o : Obj} (h : XS w ks ns bs c b0 n cp Bo Bk i m W) (hm : m < n) (o1 : W.heap[Bo]? = some (.cells #[.slice (some ⟨g, 0, none⟩) m cc] 25 (0, 0))) (o2 : Own W (.slice (some ⟨g, 0, none⟩) m cc) (xorL ks ns c bs m)) (o3 : w.heap.size ≤ g)
    (own : Own W2 (.slice a' n' cc') (xorL ks ns c bs (m + 1))) (k : Keeps (W.drew.alloc o) W2 (Row (.slice (some ⟨g, 0, none⟩) m cc))) (f : Fresh (W.drew.alloc o) (.slice (some ⟨g, 0, none⟩) m cc) (.slice a' n' cc')) :
    XS w ks ns bs c b0 n cp Bo Bk i (m + 1) (W2.setCell ⟨Bo, 0, none⟩ (.slice a' n' cc')) := by
  have hl := own.reads.2
  rw [xorL_length] at hl
  subst hl
  obtain ⟨g', rfl, hg'⟩ := own.head (by omega)
  have kk : Keeps W W2 (fun j => j = g) := ((Keeps.drew W (fun j => j = g)).trans (Keeps.alloc _ o (fun j => j = g)) (fun _ _ h => h)).trans k (fun j hj hr => by
    simpa [Row, Value.ownBlock] using hr.symm)
  obtain ⟨cur, hg⟩ := own_type o2
  have n1 := ne_type h.src hg (by decide)
  have n2 := ne_type h.res hg (by decide)
  have n3 := ne_type o1 hg (by decide)
  have n5 := ne_type h.it.key hg (by decide)
  have n6 := ne_type h.it.nonce hg (by decide)
  have n7 := ne_type h.it.count hg (by decide)
  have b2 := kk.heap o1 n3
  have ks' := Keeps.setCell W2 ⟨Bo, 0, none⟩ (.slice (some ⟨g', 0, none⟩) (m + 1) cc') (S := fun j => j = Bo) rfl
  obtain ⟨cur', hg2⟩ := own_type own
  have m3 := ne_type hg2 b2 (by decide)
  have m5 := ne_type (kk.heap h.it.key n5) b2 (by decide)
  have m6 := ne_type (kk.heap h.it.nonce n6) b2 (by decide)
  have m7 := ne_type (kk.heap h.it.count n7) b2 (by decide)
  have hfar := h.far
  refine ⟨below_keeps (below_keeps h.below kk h.below.size (fun j hj => by omega)) ks' (Nat.le_trans h.below.size kk.size) (fun j hj => by omega), ks'.heap (kk.heap h.src n1) (by omega), ks'.heap (kk.heap h.res n2) (by omega), ⟨g', cc', ?_, ks'.owns own (fun j hj => ?_), ?_⟩, ⟨ks'.heap (kk.heap h.it.key n5) m5, ks'.heap (kk.heap h.it.nonce n6) m6, ks'.heap (kk.heap h.it.count n7) m7⟩, hm, h.far, h.farK⟩
  · rw [heap_setCell_at b2]
    rfl
  · have : j = g' := by simpa [Value.ownBlock] using hj.symm
    omega
  · rcases f g' rfl with e | e
    · have : g = g' := by simpa [Value.ownBlock] using e
      omega
    · have := h.below.size
      simp at e
      omega

/-- The whole, in the result's place. -/
structure XF (w : World) (ks ns bs : List Int) (c : Int) (n : Nat) (W : World) : Prop where
  below : Below w.heap.size w W
  out : ∃ g cc, W.heap[w.heap.size + 1 + 1 + 1]? = some (.cells #[.slice (some ⟨g, 0, none⟩) n cc] 25 (0, 0)) ∧ Own W (.slice (some ⟨g, 0, none⟩) n cc) (xorL ks ns c bs n) ∧ w.heap.size ≤ g
theorem XS.done {g cc : Nat} (h : XS w ks ns bs c b0 n cp Bo Bk i n W) (o1 : W.heap[Bo]? = some (.cells #[.slice (some ⟨g, 0, none⟩) n cc] 25 (0, 0))) (o2 : Own W (.slice (some ⟨g, 0, none⟩) n cc) (xorL ks ns c bs n)) (o3 : w.heap.size ≤ g) :
    XF w ks ns bs c n (W.setCell ⟨w.heap.size + 1 + 1 + 1, 0, none⟩ (.slice (some ⟨g, 0, none⟩) n cc)) := by
  have k := Keeps.setCell W ⟨w.heap.size + 1 + 1 + 1, 0, none⟩ (.slice (some ⟨g, 0, none⟩) n cc) (S := fun j => j = w.heap.size + 1 + 1 + 1) rfl
  obtain ⟨cur, hg⟩ := own_type o2
  have n2 := ne_type hg h.res (by decide)
  refine ⟨below_keeps h.below k h.below.size (fun j hj => by omega), g, cc, ?_, k.owns o2 (fun j hj => ?_), o3⟩
  · rw [heap_setCell_at h.res]
    rfl
  · have : j = g := by simpa [Value.ownBlock] using hj.symm
    omega
theorem XF.keeps {T : Nat → Prop} (h : XF w ks ns bs c n W) (k : Keeps W W' T) (hT : ∀ j, T j → w.heap.size ≤ j) (hn : ∀ j cs t f, T j → W.heap[j]? = some (.cells cs t f) → t ≠ 25 ∧ t ≠ 5) : XF w ks ns bs c n W' := by
  obtain ⟨g, cc, o1, o2, o3⟩ := h.out
  refine ⟨below_keeps h.below k h.below.size hT, g, cc, k.heap o1 (fun t => (hn _ _ _ _ t o1).1 rfl), k.owns o2 (fun j hj ht => ?_), o3⟩
  obtain ⟨cur, hg⟩ := own_type o2
  have : j = g := by simpa [Value.ownBlock] using hj.symm
  subst this
  exact (hn _ _ _ _ ht hg).2 rfl
end

theorem keeps_putObj (W : World) (l : Nat) (o : Obj) : Keeps W (W.putObj l o) (fun j => j = l) :=
  ⟨rfl, rfl, rfl, by simp, fun k _ hn => World.putObj_heap_other hn⟩
end Go.Proofs.Ytmineipjnllopaa
