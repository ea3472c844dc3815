/- append of letters; the contract of Send. -/
import Derived.Test.YtalhpicnepofaaaB2
import Derived.Deep.RegionLaw
namespace Go.Proofs.Ytalhpicnepofaaa
open Go.RowKit
set_option linter.unusedVariables false
set_option linter.unusedSimpArgs false

theorem info27 : (Try.prog.info? 27).map (fun i => (i.zero, i.size, i.bytes)) = some (some (.agg #[.int .i64 0, .int .i64 0, .slice none 0 0]), 3, 40) := by kernel_rfl

theorem vals_one (q : Lt) : ∀ u ∈ q.vals, u.oneCell' = true := by
  intro u hu
  simp [Lt.vals] at hu
  rcases hu with rfl | rfl | rfl <;> rfl

/-- append(v, letter) at []Letter, as a run. -/
theorem app27_run {w : World} (ty : TypeId) (v : Value) (l : List Lt) (hown : w.ownsRow 0 27 3 v l.length (flat l)) (ad : Addr) (c : Nat) (q : Lt) (hq : ∀ j u, q.vals[j]? = some u → w.cell? (ad.add j) = some u) (hb : l.length ≤ 1000) :
    ∃ a' n' c' w', (Builtin.append_ #[34, 34] ty #[v, .slice (some ad) 1 c]).run Try.prog w = .ok (.slice a' n' c') w' ∧ w'.ownsRow 0 27 3 (.slice a' n' c') (l ++ [q]).length (flat (l ++ [q])) ∧ Keeps w w' (fun k => v.ownBlock = some k) ∧ Fresh w v (.slice a' n' c') := by
  obtain ⟨i0, hi, hz0, hz1, hz2⟩ := info_parts info27
  obtain ⟨v', w', hr', hown', hg, hnil, hat⟩ := run_append_own_at (P := Try.prog) w 0 34 ty 27 i0 _ 3 40 Try.underlying34 hi hz0 hz1 hz2 rfl (by decide) v l.length (flat l) hown ad 1 c q.vals rfl hq (vals_one q) (by unfold maxLen; omega) (by omega) (Nat.zero_le _)
  have hown2 : w'.ownsRow 0 27 3 v' (l ++ [q]).length (flat (l ++ [q])) := by rw [flat_append, flat_one, List.length_append]; exact hown'
  obtain ⟨a', c', hv⟩ := row_form hown2
  subst hv
  refine ⟨a', _, c', w', hr', hown2, Keeps.of_grown hg fun k _ e => e, ?_⟩
  intro k hk
  rcases hat with e | e
  · exact .inl (e ▸ hk)
  · rw [e] at hk; cases hk; exact .inr (Nat.le_refl _)

/-- append(v, letter) at a step of a region that draws its order. -/
theorem step_app27 {w : World} {ops : Array Oper} {o : Oper} {a : Act} {K : Act → World → Prop} {Q : Exit → Act → World → Prop} {E : Prop} (hgd : o.guard = none) (s x : Operand)
    (ho : o.op = .call { callee := .builtin .append, args := #[s, x], argTypes := #[34, 34] })
    (v : Value) (l : List Lt) (hs : a.eval s = v) (hown : w.ownsRow 0 27 3 v l.length (flat l)) (ad : Addr) (c : Nat) (q : Lt) (hx : a.eval x = .slice (some ad) 1 c) (hq : ∀ j u, q.vals[j]? = some u → w.cell? (ad.add j) = some u) (hb : l.length ≤ 1000)
    (h : ∀ a' n' c' w', w'.ownsRow 0 27 3 (.slice a' n' c') (l ++ [q]).length (flat (l ++ [q])) → Keeps w w' (fun k => v.ownBlock = some k) → Fresh w v (.slice a' n' c') → K (a.put o.dst (.slice a' n' c')) w') :
    if Region.wanted o (yielded ops a.tmps) = true then Oper.wp Try.prog o a w K Q else E := by
  have hw : Region.wanted o (yielded ops a.tmps) = true := by simp [Region.wanted, hgd]
  rw [if_pos hw]
  obtain ⟨a', n', c', w', hrun, h1, h2, h3⟩ := app27_run (w := w) o.type v l hown ad c q hq hb
  unfold Oper.wp execOp
  simp only [ho, resolve, invoke, builtin, Sem.run_bind, Sem.run_pure, Result.andThen_ok, List.map_toArray, List.map_cons, List.map_nil, hs, hx, hrun]
  exact h a' n' c' w' h1 h2 h3

/-- What a Net has become: only its own blocks are written; a letter is one that was there, or its bytes are new. -/
def NetPost (w : World) (o : Nat) (v : Value) (l l' : List Lt) (w' : World) : Prop :=
  ∃ v', NetAt w' 47 o v' l' ∧ Keeps w w' (Foot o v) ∧ Fresh w v v' ∧ ∀ q ∈ l', q ∈ l ∨ ∀ x, q.a = some x → 0 < q.n → w.heap.size ≤ x.block

def SendPost (w : World) (o : Nat) (v : Value) (l : List Lt) (q : Lt) (e : Ending) (w' : World) : Prop :=
  if 200 ≤ l.length ∨ 16384 < q.n then e = .returned (.bool false) ∧ NetPost w o v l l w'
  else e = .returned (.bool true) ∧ ∃ q', q'.f = q.f ∧ q'.t = q.t ∧ q'.bs = q.bs ∧ NetPost w o v l (l ++ [q']) w'

theorem below_drew (w : World) : Below w.heap.size w w.drew := ⟨rfl, rfl, rfl, Nat.le_refl _, fun _ _ => rfl⟩

theorem vals_block (w : World) (q : Lt) : ∀ j u, q.vals[j]? = some u → (w.alloc (.cells #[.int .i64 q.f, .int .i64 q.t, .slice q.a q.n q.c] 27)).cell? ((⟨w.heap.size, 0, none⟩ : Addr).add j) = some u := by
  intro j u hu
  rw [Addr.add_lit, Nat.zero_add, World.cell?_alloc_new]
  simpa [Lt.vals] using hu

theorem send_end {w wb w2 w3 : World} {o : Nat} {a a1 a2 : Option Addr} {c n1 c1 n2 c4 : Nat} {l : List Lt} {f t : Int} {bs : List Int} (H : NetAt w 47 o (.slice a l.length c) l) (BA : Below w.heap.size w wb) (M2 : NetAt w2 47 o (.slice a l.length c) l)
    (O1 : Own w2 (.slice a1 n1 c1) bs) (B2 : Below wb.drew.heap.size wb.drew w2) (F1 : ∀ k, (Value.slice a1 n1 c1).ownBlock = some k → wb.drew.heap.size ≤ k)
    (O3 : w3.ownsRow 0 27 3 (.slice a2 n2 c4) (l ++ [Lt.mk f t a1 n1 c1 bs]).length (flat (l ++ [Lt.mk f t a1 n1 c1 bs])))
    (K3 : Keeps (w2.alloc (.cells #[.int .i64 f, .int .i64 t, .slice a1 n1 c1] 27)) w3 (fun k => (Value.slice a l.length c).ownBlock = some k))
    (F3 : Fresh (w2.alloc (.cells #[.int .i64 f, .int .i64 t, .slice a1 n1 c1] 27)) (.slice a l.length c) (.slice a2 n2 c4)) :
    NetPost w o (.slice a l.length c) l (l ++ [Lt.mk f t a1 n1 c1 bs]) (w3.setCell ⟨o, 0, none⟩ (.slice a2 n2 c4)) := by
  have hsz : w.heap.size ≤ wb.heap.size := BA.size
  have hsz2 : wb.heap.size ≤ w2.heap.size := B2.size
  have ho := heap_lt H.cells
  have M2a := M2.later ((Below.refl _ w2).alloc (Nat.le_refl _) (.cells #[.int .i64 f, .int .i64 t, .slice a1 n1 c1] 27))
  have hap : (Value.slice a2 n2 c4).ownBlock ≠ some o := fun e => by
    rcases F3 o e with e1 | e1
    · exact H.apart e1
    · simp at e1; omega
  have hcell := K3.heap M2a.cells H.apart
  have KF : Keeps w3 (w3.setCell ⟨o, 0, none⟩ (.slice a2 n2 c4)) (fun k => k = o) := Keeps.setCell _ _ _ rfl
  -- a block that is neither in the old foot nor beyond what w2 held is kept from w2 on
  have far : ∀ (q : Lt), (∀ x, q.a = some x → 0 < q.n → x.block < w2.heap.size ∧ ¬ Foot o (.slice a l.length c) x.block) → LtOk w2 q (fun _ => False) → LtOk (w3.setCell ⟨o, 0, none⟩ (.slice a2 n2 c4)) q (Foot o (.slice a2 n2 c4)) := by
    intro q hx hq
    have h1 := hq.keeps (Keeps.alloc w2 (.cells #[.int .i64 f, .int .i64 t, .slice a1 n1 c1] 27) (fun _ => False)) (fun _ _ _ h => h)
    have h2 := h1.keeps K3 (fun x hx1 hp e => (hx x hx1 hp).2 (.inr e))
    have h3 := h2.keeps KF (fun x hx1 hp e => (hx x hx1 hp).2 (.inl e))
    refine ⟨h3.reads, h3.len, h3.none, fun x hx1 hp hf => ?_⟩
    obtain ⟨l1, l2⟩ := hx x hx1 hp
    rcases hf with e | e
    · exact l2 (.inl e)
    · rcases F3 _ e with e1 | e1
      · exact l2 (.inr e1)
      · simp at e1; omega
  refine ⟨.slice a2 n2 c4, ⟨?_, ?_, hap, ?_⟩, ?_, ?_, ?_⟩
  · rw [heap_setCell_at hcell]; rfl
  · exact KF.owns O3 (fun k hk e => hap (e ▸ hk))
  · intro q hq
    rcases List.mem_append.1 hq with hq | hq
    · have hw := M2.lts q hq
      exact far q (fun x hx hp => ⟨hw.lt hx hp, hw.away x hx hp⟩) ⟨hw.reads, hw.len, hw.none, fun _ _ _ h => h⟩
    · simp only [List.mem_singleton] at hq
      subst hq
      obtain ⟨hr, hlen⟩ := O1.reads
      have hnone : a1 = none → c1 = 0 := by obtain ⟨_, _, e, _, _, h, _⟩ := O1.form; cases e; exact h
      refine far _ (fun x hx hp => ?_) ⟨hr, hlen, hnone, fun _ _ _ h => h⟩
      have hx' : a1 = some x := hx
      subst hx'
      have hb : (Value.slice (some x) n1 c1).ownBlock = some x.block := rfl
      refine ⟨O1.lt hb, ?_⟩
      have hge : wb.heap.size ≤ x.block := F1 _ hb
      rintro (e | e)
      · omega
      · have hown := (World.ownsRow.lt H.own _ e).2
        omega
  · refine (((Keeps.of_below BA (S := Foot o (.slice a l.length c))).trans (Keeps.drew wb (fun _ => False)) (fun _ _ h => h.elim)).trans (Keeps.of_below B2 (S := fun _ => False)) (fun _ _ h => h.elim)).trans ((Keeps.alloc w2 (.cells #[.int .i64 f, .int .i64 t, .slice a1 n1 c1] 27) (fun _ => False)).mono (T := Foot o (.slice a l.length c)) (fun _ _ h => h.elim) |>.trans K3 (fun i _ e => .inr e) |>.trans KF (fun i _ e => .inl e)) (fun _ _ h => h)
  · intro k hk
    rcases F3 k hk with e | e
    · exact .inl e
    · simp at e; exact .inr (by omega)
  · intro q hq
    rcases List.mem_append.1 hq with hq | hq
    · exact .inl hq
    · simp only [List.mem_singleton] at hq
      subst hq
      right
      intro x hx hp
      have hx' : a1 = some x := hx
      subst hx'
      have hge : wb.heap.size ≤ x.block := F1 _ rfl
      omega

set_option maxRecDepth 100000 in
set_option maxHeartbeats 2000000 in
theorem send_ok {w : World} {o : Nat} {v : Value} {l : List Lt} (h : NetAt w 47 o v l) (q : Lt) (hq : LtOk w q (Foot o v)) (hl : l.length ≤ 300) (hn : q.n ≤ 9223372036854775807) :
    Calls Try.prog 8 #[.pointer (some ⟨o, 0, none⟩), q.agg] w (SendPost w o v l q) := by
  have BA : Hid (Below w.heap.size w (w.alloc (.cells #[.int .i64 q.f, .int .i64 q.t, .slice q.a q.n q.c] 27))) := Lib.hid ((Below.refl _ w).alloc (Nat.le_refl _) _)
  have H := Lib.hid h
  have H1 : Hid (NetAt (w.alloc (.cells #[.int .i64 q.f, .int .i64 q.t, .slice q.a q.n q.c] 27)) 47 o v l) := Lib.hid (h.later BA.out)
  have Q1 : Hid (LtOk (w.alloc (.cells #[.int .i64 q.f, .int .i64 q.t, .slice q.a q.n q.c] 27)) q (Foot o v)) := Lib.hid (hq.later BA.out)
  obtain ⟨a, c, hv⟩ := row_form h.own
  have c0 : (w.alloc (.cells #[.int .i64 q.f, .int .i64 q.t, .slice q.a q.n q.c] 27)).cell? ⟨o, 0, none⟩ = some v := by rw [cell_of H1.out.cells]; rfl
  have hvb : v.ownBlock ≠ some o := h.apart
  have VB := Lib.hid hvb
  have fail1 : Hid (NetPost w o v l l (w.alloc (.cells #[.int .i64 q.f, .int .i64 q.t, .slice q.a q.n q.c] 27))) := Lib.hid ⟨v, H1.out, Keeps.alloc _ _ _, fun k hk => .inl hk, fun q hq => .inl hq⟩
  simp only [Lt.agg]
  clear h hq hvb
  by_cases h2 : 200 ≤ l.length
  · subst hv
    go_enter Try.func8, Try.ntmps8
    go_wp2
    go_ret
    unfold SendPost
    rw [if_pos (.inl h2)]
    exact ⟨rfl, fail1.out⟩
  · by_cases h3 : 16384 < q.n
    · subst hv
      go_enter Try.func8, Try.ntmps8
      go_wp2_with (go_at_call 21; refine (long_ok _ _ _ _).mono ?_; rintro e w8 ⟨rfl, rfl⟩)
      go_ret
      unfold SendPost
      rw [if_pos (.inr h3)]
      exact ⟨rfl, fail1.out⟩
    · have V := Lib.hid hv
      have HN : Hid (¬ (200 ≤ l.length ∨ 16384 < q.n)) := Lib.hid (by omega)
      have QD := Lib.hid (Q1.out.later (below_drew _))
      have HD := Lib.hid (H1.out.later (below_drew _))
      subst hv
      go_enter Try.func8, Try.ntmps8
      go_wp2_with (go_at_call 21; refine (long_ok _ _ _ _).mono ?_; rintro e w8 ⟨rfl, rfl⟩)
      go_region_law (first | (go_simp; go_at_call 22; refine (copied_ok (w := (w.alloc (.cells #[.int .i64 q.f, .int .i64 q.t, .slice q.a q.n q.c] 27)).drew) q QD.out (by omega)).mono ?_; rintro e w2 ⟨a1, n1, c1, rfl, ho, hbl, hf⟩; have m2 := HD.out.later (w' := w2) hbl; have c2 : w2.cell? ⟨o, 0, none⟩ = some (.slice a l.length c) := (cell_of m2.cells 0).trans rfl; have c2a : ∀ X : Obj, (w2.alloc X).cell? ⟨o, 0, none⟩ = some (.slice a l.length c) := fun X => (cell_of (m2.later ((Below.refl _ w2).alloc (Nat.le_refl _) X)).cells 0).trans rfl; simp only [Lt.agg]) | (refine step_app27 rfl _ _ rfl _ l rfl (m2.later ((Below.refl _ w2).alloc (Nat.le_refl _) _)).own ⟨w2.heap.size, 0, none⟩ 1 ⟨q.f, q.t, a1, n1, c1, q.bs⟩ rfl (vals_block w2 ⟨q.f, q.t, a1, n1, c1, q.bs⟩) (by omega) ?_; intro a2 n2 c4 w3 ho3 hk3 hf3; have k3 := hk3.heap (m2.later ((Below.refl _ w2).alloc (Nat.le_refl _) _)).cells VB.out; have c3 : w3.cell? ⟨o, 0, none⟩ = some (.slice a l.length c) := (cell_of k3 0).trans rfl; have f3 : w3.frozen? ⟨o, 0, none⟩ = false := frozen_of k3 0))
      all_goals
        have M2 := Lib.hid m2
        have O1 := Lib.hid ho
        have B2 := Lib.hid hbl
        have F1 := Lib.hid hf
        have O3 := Lib.hid ho3
        have K3 := Lib.hid hk3
        have F3 := Lib.hid hf3
        clear m2 ho hbl hf ho3 hk3 hf3 k3 c2a
        try simp [Act.put, Act.eval]
        go_wp2
        go_ret
        unfold SendPost
        rw [if_neg HN.out]
        exact ⟨rfl, ⟨q.f, q.t, a1, n1, c1, q.bs⟩, rfl, rfl, rfl, send_end H.out BA.out M2.out O1.out B2.out F1.out O3.out K3.out F3.out⟩
end Go.Proofs.Ytalhpicnepofaaa
