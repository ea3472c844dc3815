/- The contract of Take. -/
import Derived.Test.YtalhpicnepofaaaB5
namespace Go.Proofs.Ytalhpicnepofaaa
open Go.RowKit
set_option linter.unusedVariables false
set_option linter.unusedSimpArgs false

def TakePost (w : World) (o : Nat) (v : Value) (l : List Lt) (i : Int) (e : Ending) (w' : World) : Prop :=
  (l = [] ∧ e = .returned (.tuple #[zeroLt.agg, .bool false]) ∧ NetPost w o v l [] w') ∨
    ∃ (k : Nat) (q : Lt) (a' : Option Addr) (n' c' : Nat), placeOf l.length i = k ∧ l[k]? = some q ∧ e = .returned (.tuple #[Lt.agg ⟨q.f, q.t, a', n', c', q.bs⟩, .bool true]) ∧ Own w' (.slice a' n' c') q.bs ∧ (∀ j, (Value.slice a' n' c').ownBlock = some j → w.heap.size ≤ j) ∧
      NetPost w o v l (l.eraseIdx k) w'

theorem netPost_below {w w' : World} {o : Nat} {v : Value} {l : List Lt} (h : NetAt w 47 o v l) (b : Below w.heap.size w w') : NetPost w o v l l w' := ⟨v, h.later b, Keeps.of_below b, fun k hk => .inl hk, fun q hq => .inl hq⟩

/-- One letter is taken out of the row, and the struct is set. -/
theorem del_end {wb wc : World} {o g m c k : Nat} {l : List Lt} (H : NetAt wb 47 o (.slice (some ⟨g, 0, none⟩) (m + 1) c) l) (R : RowAt wc g m c (l.eraseIdx k)) (K : Keeps wb wc (fun i => i = g)) :
    NetAt (wc.setCell ⟨o, 0, none⟩ (.slice (some ⟨g, 0, none⟩) m c)) 47 o (.slice (some ⟨g, 0, none⟩) m c) (l.eraseIdx k) ∧ Keeps wb (wc.setCell ⟨o, 0, none⟩ (.slice (some ⟨g, 0, none⟩) m c)) (Foot o (.slice (some ⟨g, 0, none⟩) (m + 1) c)) := by
  have hog : o ≠ g := fun e => H.apart (by rw [e]; rfl)
  have hcell := K.heap H.cells hog
  have KF : Keeps wc (wc.setCell ⟨o, 0, none⟩ (.slice (some ⟨g, 0, none⟩) m c)) (fun i => i = o) := Keeps.setCell _ _ _ rfl
  refine ⟨⟨?_, ?_, fun e => H.apart e, ?_⟩, ?_⟩
  · rw [heap_setCell_at hcell]; rfl
  · exact KF.owns R.owns (fun i hi e => by have : g = i := by simpa [Value.ownBlock] using hi
                                           omega)
  · intro q hq
    have hw := H.lts q (List.mem_of_mem_eraseIdx hq)
    have h1 := hw.keeps K (fun x hx hp e => hw.away x hx hp (.inr (by rw [e]; rfl)))
    have h2 := h1.keeps KF (fun x hx hp e => hw.away x hx hp (.inl e))
    exact ⟨h2.reads, h2.len, h2.none, h2.away⟩
  · exact (K.mono (T := Foot o (.slice (some ⟨g, 0, none⟩) (m + 1) c)) (fun i _ e => .inr (by rw [e]; rfl))).trans KF (fun i _ e => .inl e)

/-- Three stores into one block. -/
theorem keeps_three (w : World) (b : Nat) (x y z : Value) : Keeps w (((w.setCell ⟨b, 0, none⟩ x).setCell ⟨b, 1, none⟩ y).setCell ⟨b, 2, none⟩ z) (fun i => i = b) :=
  ((Keeps.setCell _ _ _ (S := fun i => i = b) rfl).trans (Keeps.setCell _ _ _ (S := fun i => i = b) rfl) (fun _ _ h => h)).trans (Keeps.setCell _ _ _ (S := fun i => i = b) rfl) (fun _ _ h => h)

theorem take_end {w w1 wd we : World} {o g m c k : Nat} {l : List Lt} {b : Obj} {q : Lt} {a1 : Option Addr} {n1 c1 : Nat} (H : NetAt w 47 o (.slice (some ⟨g, 0, none⟩) (m + 1) c) l) (B1 : Below w.heap.size w w1)
    (O1 : Own w1 (.slice a1 n1 c1) q.bs) (F1 : ∀ k, (Value.slice a1 n1 c1).ownBlock = some k → w.heap.size + 1 ≤ k)
    (D : NetAt wd 47 o (.slice (some ⟨g, 0, none⟩) m c) (l.eraseIdx k)) (KD : Keeps (w1.alloc b) wd (Foot o (.slice (some ⟨g, 0, none⟩) (m + 1) c))) (K : Keeps wd we (fun i => i = w.heap.size)) :
    Own we (.slice a1 n1 c1) q.bs ∧ NetPost w o (.slice (some ⟨g, 0, none⟩) (m + 1) c) l (l.eraseIdx k) we := by
  have hs := B1.size
  have ho := heap_lt H.cells
  have hg : g < w.heap.size := (World.ownsRow.lt H.own g rfl).2
  have hlt : ∀ q ∈ l, ∀ x, q.a = some x → 0 < q.n → x.block < w.heap.size := fun q hq x hx hp => (H.lts q hq).lt hx hp
  have hfoot : ∀ i, Foot o (.slice (some ⟨g, 0, none⟩) (m + 1) c) i → i < w.heap.size := by
    rintro i (e | e)
    · omega
    · have : g = i := by simpa [Value.ownBlock] using e
      omega
  refine ⟨?_, .slice (some ⟨g, 0, none⟩) m c, D.keeps K ?_ ?_, ?_, fun i hi => .inl hi, fun q hq => .inl (List.mem_of_mem_eraseIdx hq)⟩
  · refine ((O1.keeps (Keeps.alloc w1 b (fun _ => False)) (fun _ _ h => h)).keeps KD ?_).keeps K ?_
    · intro i hi e; have := F1 i hi; have := hfoot i e; omega
    · intro i hi e; have := F1 i hi; omega
  · intro i hi e
    rcases hi with e1 | e1
    · omega
    · have : g = i := by simpa [Value.ownBlock] using e1
      omega
  · intro q hq x hx hp e
    have := hlt q (List.mem_of_mem_eraseIdx hq) x hx hp
    omega
  · refine (((Keeps.of_below B1 (S := Foot o (.slice (some ⟨g, 0, none⟩) (m + 1) c))).trans (Keeps.alloc w1 b (fun _ => False)) (fun _ _ h => h.elim)).trans KD (fun _ _ h => h)).trans K (fun i hi e => by omega)

set_option maxRecDepth 100000 in
set_option maxHeartbeats 2000000 in
theorem take_ok {w : World} {o : Nat} {v : Value} {l : List Lt} (h : NetAt w 47 o v l) (i : Int) (hl : l.length ≤ 300) (hb : ∀ q ∈ l, q.n ≤ 140737488355328) :
    Calls Try.prog 9 #[.pointer (some ⟨o, 0, none⟩), .int .i64 i] w (TakePost w o v l i) := by
  have BA : Hid (Below w.heap.size w (w.alloc (.cells #[.int .i64 0, .int .i64 0, .slice none 0 0] 27))) := Lib.hid ((Below.refl _ w).alloc (Nat.le_refl _) _)
  have H := Lib.hid h
  have HB := Lib.hid hb
  have H1 : Hid (NetAt (w.alloc (.cells #[.int .i64 0, .int .i64 0, .slice none 0 0] 27)) 47 o v l) := Lib.hid (h.later BA.out)
  clear h hb
  go_enter Try.func9, Try.ntmps9
  go_wp2_with fail
  refine (at_ok H1.out i hl HB.out).mono ?_
  rintro e w1 ⟨hbl, he⟩
  have B1 := Lib.hid hbl
  have hB := hbl.block w.heap.size (by simp)
  rw [heap_alloc_new] at hB
  rcases he with ⟨rfl, rfl⟩ | ⟨k, q, a1, n1, c1, hp, hq, rfl, ho, hf⟩
  · have q0 := cell_of hB 0
    have q1 := cell_of hB 1
    have q2 := cell_of hB 2
    have g0 := frozen_of hB 0
    have g1 := frozen_of hB 1
    have g2 := frozen_of hB 2
    have hsz : w.heap.size < w1.heap.size := by have := hbl.size; simp at this; omega
    clear hbl hB
    simp only [Lt.agg, zeroLt]
    go_wp2
    refine bodyPost_ret (v := .tuple #[zeroLt.agg, .bool false]) (by simp [results, Try.results9, go_sem, zeroLt, Lt.agg, q0, q1, q2, hsz]) rfl ?_
    have B0 : Below w.heap.size w w1 := BA.out.trans (B1.out.mono BA.out.size)
    have BE := B0.trans ((((keeps_three w1 w.heap.size (.int .i64 0) (.int .i64 0) (.slice none 0 0)).trans (Keeps.alloc _ (.cells #[.int .i64 0, .int .i64 0, .slice none 0 0] 27) (fun _ => False)) (fun _ _ h => h.elim))).under B0.size (fun i e => by omega))
    exact .inl ⟨rfl, rfl, netPost_below H.out BE⟩
  · have HQ := Lib.hid hq
    have HP := Lib.hid hp
    have O1 := Lib.hid ho
    have F1 := Lib.hid hf
    have B0 : Hid (Below w.heap.size w w1) := Lib.hid (BA.out.trans (B1.out.mono BA.out.size))
    have hk : k < l.length := (List.getElem?_eq_some_iff.1 hq).1
    obtain ⟨m, hm⟩ : ∃ m, l.length = m + 1 := ⟨l.length - 1, by omega⟩
    obtain ⟨g, c, rfl, hrow⟩ := RowAt.of H.out.own (by omega)
    rw [hm] at hp hl hk
    have HM := Lib.hid hm
    have HW : Hid (NetAt w 47 o (.slice (some ⟨g, 0, none⟩) (m + 1) c) l) := Lib.hid (by rw [← hm]; exact H.out)
    have HB1 : Hid (NetAt (w1.alloc (.cells #[.int .i64 q.f, .int .i64 q.t, .slice a1 n1 c1] 27)) 47 o (.slice (some ⟨g, 0, none⟩) (m + 1) c) l) := Lib.hid (HW.out.later (B0.out.alloc B0.out.size _))
    have RB : Hid (RowAt (w1.alloc (.cells #[.int .i64 q.f, .int .i64 q.t, .slice a1 n1 c1] 27)) g (m + 1) c l) := Lib.hid (by
      obtain ⟨g', c', e, r⟩ := RowAt.of HB1.out.own (by omega)
      rw [hm] at e r
      cases e
      exact r)
    have o0 : (w1.alloc (.cells #[.int .i64 q.f, .int .i64 q.t, .slice a1 n1 c1] 27)).cell? ⟨o, 0, none⟩ = some (.slice (some ⟨g, 0, none⟩) (m + 1) c) := by rw [cell_of HB1.out.cells]; rfl
    have HH := Lib.hid hB
    have SZ : Hid (w.heap.size < w1.heap.size) := Lib.hid (by have := hbl.size; simp at this; omega)
    clear hbl hB hq ho hf hrow hm
    simp only [Lt.agg]
    go_wp2_with fail
    refine (place_ok HB1.out i (by rw [HM.out]; omega)).mono ?_
    rintro e w2 ⟨rfl, rfl⟩
    rw [HM.out, hp]
    have hkw : IntKind.i64.wrap ((k : Int) + 1) = (k : Int) + 1 := IntWalk.i64_in _ (by omega)
    go_wp2_with fail
    refine (delete_ok RB.out hk (by omega)).mono ?_
    rintro e wc ⟨rfl, hr, hkc⟩
    have RC := Lib.hid hr
    have KC := Lib.hid hkc
    have hgo : g ≠ o := fun e => HW.out.apart (by rw [← e]; rfl)
    have hgl : g < w.heap.size := (World.ownsRow.lt HW.out.own g rfl).2
    have h0 := hkc.heap HB1.out.cells (fun e => hgo e.symm)
    have hA := hkc.heap (x := .cells #[.int .i64 0, .int .i64 0, .slice none 0 0] 27) (k := w.heap.size) (by rw [Below.heap_alloc _ _ _ SZ.out]; exact HH.out) (by omega)
    have hC := hkc.heap (x := .cells #[.int .i64 q.f, .int .i64 q.t, .slice a1 n1 c1] 27) (k := w1.heap.size) (heap_alloc_new _ _) (by have := SZ.out; omega)
    have o1 : wc.cell? ⟨o, 0, none⟩ = some (.slice (some ⟨g, 0, none⟩) (m + 1) c) := by rw [cell_of h0]; rfl
    have p1 : wc.frozen? ⟨o, 0, none⟩ = false := frozen_of h0 0
    have q0 := cell_of hA 0
    have q1 := cell_of hA 1
    have q2 := cell_of hA 2
    have g0 := frozen_of hA 0
    have g1 := frozen_of hA 1
    have g2 := frozen_of hA 2
    have r0 : wc.cell? ⟨w1.heap.size, 0, none⟩ = some (.int .i64 q.f) := (cell_of hC 0).trans rfl
    have r1 : wc.cell? ⟨w1.heap.size, 1, none⟩ = some (.int .i64 q.t) := (cell_of hC 1).trans rfl
    have r2 : wc.cell? ⟨w1.heap.size, 2, none⟩ = some (.slice a1 n1 c1) := (cell_of hC 2).trans rfl
    have ol : o < w.heap.size := heap_lt HW.out.cells
    have ws := SZ.out
    have n1o : o ≠ w1.heap.size := by omega
    have n2o : o ≠ w.heap.size := by omega
    have n3o : w.heap.size ≠ w1.heap.size := by omega
    clear hr hkc h0 hA hC o0
    go_wp2
    refine bodyPost_ret (v := .tuple #[Lt.agg ⟨q.f, q.t, a1, n1, c1, q.bs⟩, .bool true]) (by simp [results, Try.results9, go_sem, Lt.agg, q0, q1, q2, g0, g1, g2, n2o, n1o, n3o, o1, p1]) rfl ?_
    obtain ⟨D, KD⟩ := del_end HB1.out RC.out KC.out
    obtain ⟨OE, NE⟩ := take_end HW.out B0.out O1.out (fun j hj => by have := F1.out j hj; simpa using this) D KD (keeps_three _ _ _ _ _)
    rw [HM.out]
    exact .inr ⟨k, q, a1, n1, c1, HP.out, HQ.out, rfl, OE, fun j hj => by have := F1.out j hj; simp at this; omega, NE⟩
end Go.Proofs.Ytalhpicnepofaaa
