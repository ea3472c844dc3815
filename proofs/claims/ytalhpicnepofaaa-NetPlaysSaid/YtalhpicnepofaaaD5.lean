/- A net and its reference, side by side: the other calls. -/
import Derived.Test.YtalhpicnepofaaaD4
namespace Go.Proofs.Ytalhpicnepofaaa
open Go.RowKit
set_option linter.unusedVariables false
set_option linter.unusedSimpArgs false

def NDouble (W w : World) (o : Nat) (v : Value) (ks : List Key) (o' : Nat) (v' : Value) (ks' : List Key) (i : Int) (e : Ending) (w' : World) : Prop :=
  Keeps w w' (Foot o v) ∧ ((ks = [] ∧ e = .returned (.bool false) ∧ ∃ v1, Pr W w' o v1 [] o' v' ks') ∨
    ∃ (k : Nat) (key : Key), placeOf ks.length i = k ∧ ks[k]? = some key ∧ e = .returned (.bool (sendB ks key)) ∧ ∃ v1, Pr W w' o v1 (sendK ks key) o' v' ks')

theorem n_double {W w : World} {o o' : Nat} {v v' : Value} {ks ks' : List Key} (h : Pr W w o v ks o' v' ks') (i : Int) :
    Calls Try.prog 12 #[.pointer (some ⟨o, 0, none⟩), .int .i64 i] w (NDouble W w o v ks o' v' ks' i) := by
  obtain ⟨l, l', p, rfl, e2, k1, k2⟩ := h
  obtain ⟨hl, hb⟩ := small_of p k1
  refine (double_ok p.net i (by omega) hb).mono ?_
  rintro e w' (⟨h0, rfl, hp⟩ | ⟨k, q, hp, hq, ⟨hc, rfl, hn⟩ | ⟨hc, rfl, q', f1, f2, f3, hn⟩⟩)
  · subst h0
    obtain ⟨v1, p1, kp⟩ := p.nstep hp
    exact ⟨kp, .inl ⟨rfl, rfl, v1, [], l', p1, rfl, e2, k1, k2⟩⟩
  · obtain ⟨v1, p1, kp⟩ := p.nstep hn
    have hn := key_len (p.net.lts q (List.mem_of_getElem? hq))
    have hc' : 200 ≤ (l.map Lt.key).length ∨ 16384 < q.key.2.2.length := by rw [List.length_map, ← hn]; exact hc
    refine ⟨kp, .inr ⟨k, q.key, by rw [List.length_map]; exact hp, by rw [List.getElem?_map, hq]; rfl, by unfold sendB; rw [decide_eq_false (fun h => h hc')], v1, l, l', p1, ?_, e2, k1.send _, k2⟩⟩
    unfold sendK; rw [if_pos hc']
  · obtain ⟨v1, p1, kp⟩ := p.nstep hn
    have hn := key_len (p.net.lts q (List.mem_of_getElem? hq))
    have hc' : ¬ (200 ≤ (l.map Lt.key).length ∨ 16384 < q.key.2.2.length) := by rw [List.length_map, ← hn]; exact hc
    refine ⟨kp, .inr ⟨k, q.key, by rw [List.length_map]; exact hp, by rw [List.getElem?_map, hq]; rfl, by unfold sendB; rw [decide_eq_true hc'], v1, l ++ [q'], l', p1, ?_, e2, k1.send _, k2⟩⟩
    unfold sendK
    rw [if_neg hc']
    simp [Lt.key, f1, f2, f3]

def NTurn (W w : World) (o : Nat) (v : Value) (ks : List Key) (o' : Nat) (v' : Value) (ks' : List Key) (i : Int) (bs : List Int) (e : Ending) (w' : World) : Prop :=
  Keeps w w' (Foot o v) ∧ (((ks = [] ∨ 16384 < bs.length) ∧ e = .returned (.bool false) ∧ ∃ v1, Pr W w' o v1 ks o' v' ks') ∨
    ∃ (k : Nat) (key : Key), placeOf ks.length i = k ∧ ks[k]? = some key ∧ bs.length ≤ 16384 ∧ e = .returned (.bool true) ∧ ∃ v1, Pr W w' o v1 (ks.set k (key.1, key.2.1, bs)) o' v' ks')

theorem map_set (l : List Lt) (k : Nat) (q : Lt) : (l.set k q).map Lt.key = (l.map Lt.key).set k q.key := by
  rw [List.map_set]

theorem n_turn {W w : World} {o o' : Nat} {v v' : Value} {ks ks' : List Key} (h : Pr W w o v ks o' v' ks') (i : Int) (a : Option Addr) (n c : Nat) (bs : List Int) (hr : Reads w a bs) (hlen : bs.length = n) :
    Calls Try.prog 20 #[.pointer (some ⟨o, 0, none⟩), .int .i64 i, .slice a n c] w (NTurn W w o v ks o' v' ks' i bs) := by
  obtain ⟨l, l', p, rfl, e2, k1, k2⟩ := h
  obtain ⟨hl, hb⟩ := small_of p k1
  refine (turn_ok p.net i (by omega) a n c bs hr hlen).mono ?_
  rintro e w' (⟨hc, rfl, rfl⟩ | ⟨k, q, a', n', c', hp, hq, hn, rfl, hnp⟩)
  · exact ⟨Keeps.refl _ _, .inl ⟨hc.imp (fun h => by rw [h]; rfl) (fun h => by omega), rfl, v, l, l', p, rfl, e2, k1, k2⟩⟩
  · obtain ⟨v1, p1, kp⟩ := p.nstep hnp
    refine ⟨kp, .inr ⟨k, q.key, by rw [List.length_map]; exact hp, by rw [List.getElem?_map, hq]; rfl, by omega, rfl, v1, _, l', p1, map_set _ _ _, e2, k1.set k _ (by show bs.length ≤ _; omega), k2⟩⟩

def NAt (W w : World) (o : Nat) (v : Value) (ks : List Key) (o' : Nat) (v' : Value) (ks' : List Key) (i : Int) (e : Ending) (w' : World) : Prop :=
  Below w.heap.size w w' ∧ ((ks = [] ∧ e = .returned (.tuple #[zeroLt.agg, .bool false])) ∨
    ∃ (k : Nat) (q : Lt), placeOf ks.length i = k ∧ ks[k]? = some q.key ∧ e = .returned (.tuple #[q.agg, .bool true]) ∧ LtOk w' q (fun _ => False))

theorem n_at {W w : World} {o o' : Nat} {v v' : Value} {ks ks' : List Key} (h : Pr W w o v ks o' v' ks') (i : Int) :
    Calls Try.prog 13 #[.pointer (some ⟨o, 0, none⟩), .int .i64 i] w (NAt W w o v ks o' v' ks' i) := by
  obtain ⟨l, l', p, rfl, e2, k1, k2⟩ := h
  obtain ⟨hl, hb⟩ := small_of p k1
  refine (at_ok p.net i (by omega) hb).mono ?_
  rintro e w' ⟨hbl, ⟨h0, rfl⟩ | ⟨k, q, a, n, c, hp, hq, rfl, ho, hf⟩⟩
  · exact ⟨hbl, .inl ⟨by rw [h0]; rfl, rfl⟩⟩
  · exact ⟨hbl, .inr ⟨k, ⟨q.f, q.t, a, n, c, q.bs⟩, by rw [List.length_map]; exact hp, by rw [List.getElem?_map, hq]; rfl, rfl, own_lt ho (fun _ _ h => h)⟩⟩

theorem n_count {W w : World} {o o' : Nat} {v v' : Value} {ks ks' : List Key} (h : Pr W w o v ks o' v' ks') : Calls Try.prog 11 #[.pointer (some ⟨o, 0, none⟩)] w fun e w' => e = .returned (.int .i64 ks.length) ∧ w = w' := by
  obtain ⟨l, l', p, rfl, e2, k1, k2⟩ := h
  refine (count_ok p.net).mono ?_
  rintro e w' ⟨rfl, rfl⟩
  exact ⟨by rw [List.length_map], rfl⟩

theorem n_way {W w : World} {o o' : Nat} {v v' : Value} {ks ks' : List Key} (h : Pr W w o v ks o' v' ks') :
    Calls Try.prog 14 #[.pointer (some ⟨o, 0, none⟩)] w fun e w' => ∃ (a : Option Addr) (c : Nat) (lw : List Lt), e = .returned (.slice a ks.length c) ∧ WayAt w w' (.slice a ks.length c) lw ∧ lw.map Lt.key = ks ∧ Below w.heap.size w w' := by
  obtain ⟨l, l', p, rfl, e2, k1, k2⟩ := h
  obtain ⟨hl, hb⟩ := small_of p k1
  refine (way_ok p.net (by omega) hb).mono ?_
  rintro e w' ⟨a, n, c, lw, rfl, rfl, hw, hk, hbl⟩
  rw [List.length_map]
  exact ⟨a, c, lw, rfl, hw, hk, hbl⟩

theorem r_place {W w : World} {o o' : Nat} {v v' : Value} {ks ks' : List Key} (h : Pr W w o v ks o' v' ks') (i : Int) :
    Calls Try.prog 16 #[.pointer (some ⟨o', 0, none⟩), .int .i64 i] w fun e w' => e = .returned (.int .i64 (placeOf ks'.length i)) ∧ w = w' := by
  obtain ⟨l, l', p, e1, rfl, k1, k2⟩ := h
  have hl : l'.length ≤ 200 := by have := k2.1; simpa using this
  refine (rplace_ok p.ref i (by omega)).mono ?_
  rintro e w' ⟨rfl, rfl⟩
  exact ⟨by rw [List.length_map], rfl⟩

/-- The reference's row: its length, and one letter's cells. -/
theorem r_len {W w : World} {o o' : Nat} {v v' : Value} {ks ks' : List Key} (h : Pr W w o v ks o' v' ks') : ∃ a c, v' = .slice a ks'.length c ∧ w.cell? ⟨o', 0, none⟩ = some (.slice a ks'.length c) := by
  obtain ⟨l, l', p, e1, rfl, k1, k2⟩ := h
  obtain ⟨a, c, hv⟩ := row_form p.ref.own
  rw [List.length_map]
  exact ⟨a, c, hv, by rw [cell_of p.ref.cells, hv]; rfl⟩

theorem r_row {W w : World} {o o' : Nat} {v v' : Value} {ks ks' : List Key} (h : Pr W w o v ks o' v' ks') {k : Nat} {key : Key} (hk : ks'[k]? = some key) :
    ∃ (q : Lt) (g c : Nat), q.key = key ∧ v' = .slice (some ⟨g, 0, none⟩) ks'.length c ∧ g < w.heap.size ∧ w.cell? ⟨o', 0, none⟩ = some (.slice (some ⟨g, 0, none⟩) ks'.length c) ∧
      w.cell? ⟨g, k * 3, none⟩ = some (.int .i64 q.f) ∧ w.cell? ⟨g, k * 3 + 1, none⟩ = some (.int .i64 q.t) ∧ w.cell? ⟨g, k * 3 + 2, none⟩ = some (.slice q.a q.n q.c) ∧ (∀ i, w.frozen? ⟨g, i, none⟩ = false) ∧ ArgLt W w q := by
  obtain ⟨l, l', p, e1, rfl, k1, k2⟩ := h
  rw [List.getElem?_map] at hk
  cases hq : l'[k]? with
  | none => rw [hq] at hk; cases hk
  | some q =>
    rw [hq] at hk
    obtain ⟨g, c, hv, hg, c0, c1, c2, fz⟩ := row_cells p.ref.own hq
    have hw := p.ref.lts q (List.mem_of_getElem? hq)
    rw [List.length_map]
    refine ⟨q, g, c, by simpa using hk, hv, hg, by rw [cell_of p.ref.cells, hv]; rfl, c0, c1, c2, fz, hw.reads, hw.len, hw.none, fun x hx hp e => ?_⟩
    have := p.old q (List.mem_of_getElem? hq) x hx hp
    omega

theorem ref_set {w : World} {o g m c k : Nat} {l : List Lt} {q q1 : Lt} (H : NetAt w 40 o (.slice (some ⟨g, 0, none⟩) m c) l) (hm : l.length = m) (hq : l[k]? = some q) (hf : q1.f = q.f) (ht : q1.t = q.t) (hq1 : LtOk w q1 (Foot o (.slice (some ⟨g, 0, none⟩) m c))) :
    RefPost w o (.slice (some ⟨g, 0, none⟩) m c) (l.set k q1) (w.setCell ⟨g, k * 3 + 2, none⟩ (.slice q1.a q1.n q1.c)) := by
  subst hm
  have hog : o ≠ g := fun e => H.apart (by rw [e]; rfl)
  have KF : Keeps w (w.setCell ⟨g, k * 3 + 2, none⟩ (.slice q1.a q1.n q1.c)) (fun i => i = g) := Keeps.setCell _ _ _ rfl
  have far : ∀ p : Lt, LtOk w p (Foot o (.slice (some ⟨g, 0, none⟩) l.length c)) → LtOk (w.setCell ⟨g, k * 3 + 2, none⟩ (.slice q1.a q1.n q1.c)) p (Foot o (.slice (some ⟨g, 0, none⟩) l.length c)) := by
    intro p hw
    have h1 := hw.keeps KF (fun x hx hpos e => hw.away x hx hpos (.inr (by rw [e]; rfl)))
    exact ⟨h1.reads, h1.len, h1.none, h1.away⟩
  refine ⟨.slice (some ⟨g, 0, none⟩) l.length c, ⟨KF.heap H.cells hog, ?_, H.apart, ?_⟩, KF.mono (fun i _ e => .inr (by rw [e]; rfl)), fun i hi => .inl hi⟩
  · rcases H.own with ⟨h1, ⟨e, _⟩ | ⟨g', cap, cur, e, hb, hg, hn, hcm, hs, hta⟩⟩
    · cases e
    · cases e
      refine ⟨by rw [flat_length], .inr ⟨g, c, _, by simp, hb, heap_setCell_at hg (k * 3 + 2) (.slice q1.a q1.n q1.c), by simpa using hn, hcm, ?_, ?_⟩⟩
      · simp [hs]
      · have := flat_set l k q q1.a q1.n q1.c q1.bs hq
        rw [← hf, ← ht] at this
        rw [show q1 = ⟨q1.f, q1.t, q1.a, q1.n, q1.c, q1.bs⟩ from rfl, this, ← hta]
        simp [List.take_set]
  · intro p hp
    rcases List.mem_or_eq_of_mem_set hp with h | h
    · exact far p (H.lts p h)
    · subst h; exact far _ hq1

theorem r_set {W w : World} {o o' : Nat} {v v' : Value} {ks ks' : List Key} (h : Pr W w o v ks o' v' ks') {k g c : Nat} {key : Key} (hk : ks'[k]? = some key) (hv : v' = .slice (some ⟨g, 0, none⟩) ks'.length c) (q : Lt) (hq : ArgLt W w q) (hn : q.n ≤ 16384) :
    ∃ v1, Pr W (w.setCell ⟨g, k * 3 + 2, none⟩ (.slice q.a q.n q.c)) o v ks o' v1 (ks'.set k (key.1, key.2.1, q.bs)) ∧ Keeps w (w.setCell ⟨g, k * 3 + 2, none⟩ (.slice q.a q.n q.c)) (Foot o' v') := by
  obtain ⟨l, l', p, e1, rfl, k1, k2⟩ := h
  rw [List.getElem?_map] at hk
  cases hr : l'[k]? with
  | none => rw [hr] at hk; cases hk
  | some r =>
    rw [hr] at hk
    simp at hk
    subst hk
    subst hv
    have hr' := ref_set (q1 := ⟨r.f, r.t, q.a, q.n, q.c, q.bs⟩) p.ref (by rw [List.length_map]) hr rfl rfl ⟨hq.reads, hq.len, hq.none, fun x hx hp e => hq.away x hx hp (p.newR _ e)⟩
    obtain ⟨v1, p1, kp⟩ := p.rstep hr' (fun s hs x hx hp => by
      rcases List.mem_or_eq_of_mem_set hs with h | h
      · exact p.old s h x hx hp
      · subst h
        have := hq.away x hx hp
        simp at this
        omega)
    exact ⟨v1, ⟨l, _, p1, e1, map_set _ _ _, k1, k2.set k _ (by show q.bs.length ≤ _; have := hq.len; omega)⟩, kp⟩
end Go.Proofs.Ytalhpicnepofaaa
