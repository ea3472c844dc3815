/- The reference's Take. -/
import Derived.Test.YtalhpicnepofaaaD1
namespace Go.Proofs.Ytalhpicnepofaaa
open Go.RowKit
set_option linter.unusedVariables false
set_option linter.unusedSimpArgs false

/-- append(v, letters...) at []Letter. -/
theorem app27n_law {w : World} {ops : Array Oper} {rest : List Oper} {o : Oper} {a : Act} {Q : Exit → Act → World → Prop} (hgd : o.guard = none) (s x : Operand)
    (ho : o.op = .call { callee := .builtin .append, args := #[s, x], argTypes := #[34, 34] })
    (v : Value) (l : List Lt) (hs : a.eval s = v) (hown : w.ownsRow 0 27 3 v l.length (flat l)) (x2 : Value) (ad : Addr) (m c : Nat) (hx2 : x2 = .slice (some ad) m c) (ms : List Lt) (hm : ms.length = m) (hx : a.eval x = x2) (hq : ∀ j u, (flat ms)[j]? = some u → w.cell? (ad.add j) = some u) (hb : l.length + m ≤ 1000)
    (h : ∀ a' n' c' w', w'.ownsRow 0 27 3 (.slice a' n' c') (l ++ ms).length (flat (l ++ ms)) → Keeps w w' (fun k => v.ownBlock = some k) → Fresh w v (.slice a' n' c') → wpList Try.prog ops Q rest (a.put o.dst (.slice a' n' c')) w') :
    wpList Try.prog ops Q (o :: rest) a w := by
  obtain ⟨i0, hi, hz0, hz1, hz2⟩ := info_parts info27
  subst hx2
  obtain ⟨v', w', hr', hown', hg, hnil, hat⟩ := run_append_own_at (P := Try.prog) w 0 34 o.type 27 i0 _ 3 40 Try.underlying34 hi hz0 hz1 hz2 rfl (by decide) v l.length (flat l) hown ad m c (flat ms) (by rw [flat_length, hm]) hq (flat_one_all ms) (by unfold maxLen; omega) (by omega) (Nat.zero_le _)
  have hown2 : w'.ownsRow 0 27 3 v' (l ++ ms).length (flat (l ++ ms)) := by rw [flat_append, List.length_append, hm]; exact hown'
  obtain ⟨a', n', c', hv⟩ : ∃ a n c, v' = .slice a n c := by obtain ⟨a', c', hv⟩ := row_form hown2; exact ⟨_, _, _, hv⟩
  subst hv
  have hF : Fresh w v (.slice a' n' c') := by
    intro k hk
    rcases hat with e | e
    · exact .inl (e ▸ hk)
    · rw [e] at hk; cases hk; exact .inr (Nat.le_refl _)
  refine wpList_plain hgd fun K hK => ?_
  unfold Oper.wp
  simp [execOp, ho, resolve, invoke, builtin, hs, hx, hr', Result.andThen]
  exact hK _ _ (h a' n' c' w' hown2 (Keeps.of_grown hg fun k _ e => e) hF)

def RTakePost (w : World) (o : Nat) (v : Value) (l : List Lt) (i : Int) (e : Ending) (w' : World) : Prop :=
  (l = [] ∧ e = .returned (.tuple #[zeroLt.agg, .bool false]) ∧ RefPost w o v [] w') ∨
    ∃ (k : Nat) (q : Lt), placeOf l.length i = k ∧ l[k]? = some q ∧ e = .returned (.tuple #[q.agg, .bool true]) ∧ RefPost w o v (l.eraseIdx k) w'

theorem rtake_end {w w3 we : World} {o k : Nat} {v r : Value} {l : List Lt} (H : NetAt w 40 o v l) (B : Below w.heap.size w w3) (O3 : w3.ownsRow 0 27 3 r (l.eraseIdx k).length (flat (l.eraseIdx k))) (F : ∀ j, r.ownBlock = some j → w.heap.size + 1 ≤ j)
    (K : Keeps (w3.setCell ⟨o, 0, none⟩ r) we (fun i => i = w.heap.size)) : RefPost w o v (l.eraseIdx k) we := by
  have ho := heap_lt H.cells
  have N := H.later B
  have KF : Keeps w3 (w3.setCell ⟨o, 0, none⟩ r) (fun i => i = o) := Keeps.setCell _ _ _ rfl
  have c0 : (w3.setCell ⟨o, 0, none⟩ r).heap[o]? = some (.cells #[r] 40) := by rw [heap_setCell_at N.cells]; rfl
  refine ⟨r, ⟨K.heap c0 (by omega), K.owns (KF.owns O3 (fun j hj e => by have := F j hj; omega)) (fun j hj e => by have := F j hj; omega), fun e => by have := F o e; omega, ?_⟩, ?_, fun j hj => .inr (by have := F j hj; omega)⟩
  · intro q hq
    have hw := H.lts q (List.mem_of_mem_eraseIdx hq)
    have h1 := (hw.later B).keeps KF (fun x hx hp e => hw.away x hx hp (.inl e))
    have h2 := h1.keeps K (fun x hx hp e => by have := hw.lt hx hp; omega)
    refine ⟨h2.reads, h2.len, h2.none, fun x hx hp e => ?_⟩
    rcases e with e | e
    · exact hw.away x hx hp (.inl e)
    · have := F _ e; have := hw.lt hx hp; omega
  · exact (((Keeps.of_below B (S := Foot o v)).trans KF (fun i _ e => .inl e))).trans K (fun i hi e => by omega)

theorem sub_row {w : World} {g n c : Nat} {l : List Lt} (h : RowAt w g n c l) : ∀ j u, (flat l)[j]? = some u → w.cell? ⟨g, j, none⟩ = some u := by
  obtain ⟨cur, hg, hnc, hcm, hcs, htake, hl⟩ := h
  intro j u hu
  have hj : j < n * 3 := by have := (List.getElem?_eq_some_iff.1 hu).1; rw [flat_length, hl] at this; exact this
  rw [cell_of hg]
  rw [← htake, List.getElem?_take, if_pos hj] at hu
  simpa using hu

set_option maxRecDepth 100000 in
set_option maxHeartbeats 4000000 in
theorem rtake_ok {w : World} {o : Nat} {v : Value} {l : List Lt} (h : NetAt w 40 o v l) (i : Int) (hl : l.length ≤ 300) :
    Calls Try.prog 18 #[.pointer (some ⟨o, 0, none⟩), .int .i64 i] w (RTakePost w o v l i) := by
  have BA : Hid (Below w.heap.size w (w.alloc (.cells #[.int .i64 0, .int .i64 0, .slice none 0 0] 27))) := Lib.hid ((Below.refl _ w).alloc (Nat.le_refl _) _)
  have H := Lib.hid h
  have H1 : Hid (NetAt (w.alloc (.cells #[.int .i64 0, .int .i64 0, .slice none 0 0] 27)) 40 o v l) := Lib.hid (h.later BA.out)
  obtain ⟨a, c, hv⟩ := row_form h.own
  have c0 : (w.alloc (.cells #[.int .i64 0, .int .i64 0, .slice none 0 0] 27)).cell? ⟨o, 0, none⟩ = some v := by rw [cell_of H1.out.cells]; rfl
  have ho := heap_lt h.cells
  have HO := Lib.hid ho
  clear h ho
  by_cases h0 : l.length = 0
  · have hp : placeOf l.length i = -1 := by unfold placeOf; rw [if_pos h0]
    have E0 := Lib.hid h0
    subst hv
    clear h0
    go_enter Try.func18, Try.ntmps18
    go_wp2_with fail
    refine (rplace_ok H1.out i (by omega)).mono ?_
    rintro e w1 ⟨rfl, rfl⟩
    rw [hp]
    clear hp
    go_wp2
    refine bodyPost_ret (v := .tuple #[zeroLt.agg, .bool false]) (by simp [results, Try.results18, go_sem, zeroLt, Lt.agg]) rfl ?_
    exact .inl ⟨List.eq_nil_of_length_eq_zero E0.out, rfl, by
      have e := List.eq_nil_of_length_eq_zero E0.out
      have h1 := H1.out
      rw [e] at h1
      rw [e]
      exact ⟨_, h1, Keeps.alloc _ _ _, fun k hk => .inl hk⟩⟩
  · obtain ⟨k, hp, hk⟩ := placeOf_lt i (show 0 < l.length by omega)
    obtain ⟨q, hq⟩ : ∃ q, l[k]? = some q := ⟨_, List.getElem?_eq_getElem hk⟩
    have HP := Lib.hid hp
    have HQ := Lib.hid hq
    obtain ⟨g, cp, hv2, hg, d0, d1, d2, fz⟩ := row_cells H1.out.own hq
    rw [hv] at hv2
    cases hv2
    subst hv
    have hkc : l.length ≤ c := by
      rcases H.out.own.2 with ⟨e, _⟩ | ⟨g', cap, cur, e, _, _, hn, _⟩
      · cases e
      · cases e; exact hn
    have hkw : IntKind.i64.wrap ((k : Int) + 1) = (k : Int) + 1 := IntWalk.i64_in _ (by omega)
    have hnk : ¬ ((k : Int) < 0) := by omega
    have s1 : ∀ w', (Instr.slice 34 (.slice (some ⟨g, 0, none⟩) l.length c) none (some (.int .i64 (k : Int))) none).run Try.prog w' = .ok (.slice (some ⟨g, 0, none⟩) k c) w' := cut_upto g l.length c k (by omega)
    obtain ⟨v2, hv2⟩ : ∃ v2 : Value, v2 = .slice (some (if c = k + 1 then ⟨g, 0, none⟩ else ⟨g, (k + 1) * 3, none⟩)) (l.length - (k + 1)) (c - (k + 1)) := ⟨_, rfl⟩
    have s2 : ∀ w', (Instr.slice 34 (.slice (some ⟨g, 0, none⟩) l.length c) (some (.int .i64 ((k : Int) + 1))) none none).run Try.prog w' = .ok v2 w' := by
      intro w'
      rw [hv2]
      exact cut_from g l.length c (k + 1) (by omega) w'
    have V2 := Lib.hid hv2
    have BL : Hid (Below w.heap.size w ((w.alloc (.cells #[.int .i64 0, .int .i64 0, .slice none 0 0] 27)).alloc (.cells #[.int .i64 q.f, .int .i64 q.t, .slice q.a q.n q.c] 27))) := Lib.hid (BA.out.alloc BA.out.size _)
    have HL := Lib.hid (H.out.later BL.out)
    have cL : ((w.alloc (.cells #[.int .i64 0, .int .i64 0, .slice none 0 0] 27)).alloc (.cells #[.int .i64 q.f, .int .i64 q.t, .slice q.a q.n q.c] 27)).cell? ⟨o, 0, none⟩ = some (.slice (some ⟨g, 0, none⟩) l.length c) := (cell_of HL.out.cells 0).trans rfl
    have RL : Hid (RowAt ((w.alloc (.cells #[.int .i64 0, .int .i64 0, .slice none 0 0] 27)).alloc (.cells #[.int .i64 q.f, .int .i64 q.t, .slice q.a q.n q.c] 27)) g l.length c l) := Lib.hid (by
      obtain ⟨g', c', e, r⟩ := RowAt.of HL.out.own (by omega)
      cases e
      exact r)
    have NW : Hid (∀ j u, (flat (l.take k))[j]? = some u → ((w.alloc (.cells #[.int .i64 0, .int .i64 0, .slice none 0 0] 27)).alloc (.cells #[.int .i64 q.f, .int .i64 q.t, .slice q.a q.n q.c] 27)).cell? ((⟨g, 0, none⟩ : Addr).add j) = some u) := Lib.hid (by
      intro j u hu
      rw [flat_take, List.getElem?_take] at hu
      split at hu
      · rw [Addr.add_lit, Nat.zero_add]; exact sub_row RL.out j u hu
      · cases hu)
    clear h0 hq hg fz hv2
    go_enter Try.func18, Try.ntmps18
    go_wp2_with fail
    refine (rplace_ok H1.out i (by omega)).mono ?_
    rintro e w1 ⟨rfl, rfl⟩
    rw [hp]
    clear hp
    go_wp2_with (at_builtin; refine app27n_law rfl _ _ rfl (.slice none 0 0) [] rfl (World.ownsRow_nil _ 0 27 3) _ ⟨g, 0, none⟩ k c rfl (l.take k) (by rw [List.length_take]; omega) rfl NW.out (by simp; omega) ?_)
    intro a2 n2 c2 w2 ho2 hk2 hf2
    have B2 : Hid (Below w.heap.size w w2) := Lib.hid (BL.out.trans (hk2.under (by simp; omega) (fun i e => by simp [Value.ownBlock] at e)))
    have BL2 : Hid (Below ((w.alloc (.cells #[.int .i64 0, .int .i64 0, .slice none 0 0] 27)).alloc (.cells #[.int .i64 q.f, .int .i64 q.t, .slice q.a q.n q.c] 27)).heap.size ((w.alloc (.cells #[.int .i64 0, .int .i64 0, .slice none 0 0] 27)).alloc (.cells #[.int .i64 q.f, .int .i64 q.t, .slice q.a q.n q.c] 27)) w2) := Lib.hid (hk2.below (fun i _ e => by simp [Value.ownBlock] at e))
    have F2 : Hid (∀ j, (Value.slice a2 n2 c2).ownBlock = some j → w.heap.size + 2 ≤ j) := Lib.hid (fun j hj => by
      rcases hf2 j hj with e | e
      · simp [Value.ownBlock] at e
      · simp at e; omega)
    have H2 := Lib.hid (H.out.later B2.out)
    have o2 : w2.cell? ⟨o, 0, none⟩ = some (.slice (some ⟨g, 0, none⟩) l.length c) := (cell_of H2.out.cells 0).trans rfl
    have R2 : Hid (RowAt w2 g l.length c l) := Lib.hid (by
      obtain ⟨g', c', e, r⟩ := RowAt.of H2.out.own (by omega)
      cases e
      exact r)
    have O2 : Hid (w2.ownsRow 0 27 3 (.slice a2 n2 c2) (l.take k).length (flat (l.take k))) := Lib.hid (by simpa using ho2)
    have NW2 : Hid (∀ j u, (flat (l.drop (k + 1)))[j]? = some u → w2.cell? ((if c = k + 1 then (⟨g, 0, none⟩ : Addr) else ⟨g, (k + 1) * 3, none⟩).add j) = some u) := Lib.hid (by
      intro j u hu
      have hj : j < (l.length - (k + 1)) * 3 := by
        have := (List.getElem?_eq_some_iff.1 hu).1
        rw [flat_length, List.length_drop] at this
        exact this
      rw [if_neg (by omega), Addr.add_lit]
      rw [flat_drop, List.getElem?_drop] at hu
      exact sub_row R2.out _ u hu)
    clear ho2 hk2 hf2
    go_wp2_with (at_builtin; refine app27n_law rfl _ _ rfl (.slice a2 n2 c2) (l.take k) rfl O2.out v2 _ (l.length - (k + 1)) (c - (k + 1)) V2.out (l.drop (k + 1)) (by rw [List.length_drop]) rfl NW2.out (by rw [List.length_take]; omega) ?_)
    intro a3 n3 c3 w3 ho3 hk3 hf3
    have B3 : Hid (Below w.heap.size w w3) := Lib.hid (B2.out.trans (hk3.under B2.out.size (fun i e => by have := F2.out i e; omega)))
    have S2 := BL2.out.size
    simp at S2
    have F3 : Hid (∀ j, (Value.slice a3 n3 c3).ownBlock = some j → w.heap.size + 2 ≤ j) := Lib.hid (fun j hj => by
      rcases hf3 j hj with e | e
      · exact F2.out j e
      · omega)
    have O3 : Hid (w3.ownsRow 0 27 3 (.slice a3 n3 c3) (l.eraseIdx k).length (flat (l.eraseIdx k))) := Lib.hid (by rw [List.eraseIdx_eq_take_drop_succ]; rw [List.length_append, List.length_take, List.length_drop]; exact ho3)
    have H3 := Lib.hid (H.out.later B3.out)
    have hZ := hk3.heap (BL2.out.block w.heap.size (by simp; omega) |>.trans (heap_alloc_two_old _ _ _)) (fun e => by have := F2.out _ e; omega)
    have hL := hk3.heap (BL2.out.block (w.heap.size + 1) (by simp) |>.trans (heap_alloc_two_new _ _ _)) (fun e => by have := F2.out _ e; omega)
    have hoz : o ≠ w.heap.size := by have := HO.out; omega
    have hol : o ≠ w.heap.size + 1 := by have := HO.out; omega
    have o3 : w3.cell? ⟨o, 0, none⟩ = some (.slice (some ⟨g, 0, none⟩) l.length c) := (cell_of H3.out.cells 0).trans rfl
    have p3 : w3.frozen? ⟨o, 0, none⟩ = false := frozen_of H3.out.cells 0
    have hZ' := (Keeps.setCell w3 ⟨o, 0, none⟩ (.slice a3 n3 c3) (S := fun j => j = o) rfl).heap hZ (by omega)
    have hL' := (Keeps.setCell w3 ⟨o, 0, none⟩ (.slice a3 n3 c3) (S := fun j => j = o) rfl).heap hL (by omega)
    have z0 := cell_of hZ' 0
    have z1 := cell_of hZ' 1
    have z2 := cell_of hZ' 2
    have y0 := frozen_of hZ' 0
    have y1 := frozen_of hZ' 1
    have y2 := frozen_of hZ' 2
    have l0 := (cell_of hL' 0).trans (show _ = some (Value.int .i64 q.f) from rfl)
    have l1 := (cell_of hL' 1).trans (show _ = some (Value.int .i64 q.t) from rfl)
    have l2 := (cell_of hL' 2).trans (show _ = some (Value.slice q.a q.n q.c) from rfl)
    clear ho3 hk3 hf3 hZ hL hZ' hL' S2 cL c0 o2 d0 d1 d2
    go_wp2
    refine bodyPost_ret (v := .tuple #[q.agg, .bool true]) (by simp [results, Try.results18, go_sem, Lt.agg, z0, z1, z2, y0, y1, y2]) rfl ?_
    exact .inr ⟨k, q, HP.out, HQ.out, rfl, rtake_end H.out B3.out O3.out (fun j hj => by have := F3.out j hj; omega) (keeps_three _ _ _ _ _)⟩
end Go.Proofs.Ytalhpicnepofaaa
