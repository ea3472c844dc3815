/- The contracts of Way and Turn. -/
import Derived.Test.YtalhpicnepofaaaC3
import Derived.Deep.RegionWith
namespace Go.Proofs.Ytalhpicnepofaaa
open Go.RowKit
set_option linter.unusedVariables false
set_option linter.unusedSimpArgs false

/-- append(v, letter) at []Letter. -/
theorem app27_law {w : World} {ops : Array Oper} {rest : List Oper} {o : Oper} {a : Act} {Q : Exit → Act → World → Prop} (hgd : o.guard = none) (s x : Operand)
    (ho : o.op = .call { callee := .builtin .append, args := #[s, x], argTypes := #[34, 34] })
    (v : Value) (l : List Lt) (hs : a.eval s = v) (hown : w.ownsRow 0 27 3 v l.length (flat l)) (ad : Addr) (c : Nat) (q : Lt) (hx : a.eval x = .slice (some ad) 1 c) (hq : ∀ j u, q.vals[j]? = some u → w.cell? (ad.add j) = some u) (hb : l.length ≤ 1000)
    (h : ∀ a' n' c' w', w'.ownsRow 0 27 3 (.slice a' n' c') (l ++ [q]).length (flat (l ++ [q])) → Keeps w w' (fun k => v.ownBlock = some k) → Fresh w v (.slice a' n' c') → wpList Try.prog ops Q rest (a.put o.dst (.slice a' n' c')) w') :
    wpList Try.prog ops Q (o :: rest) a w := by
  obtain ⟨a', n', c', w', hrun, h1, h2, h3⟩ := app27_run (w := w) o.type v l hown ad c q hq hb
  refine wpList_plain hgd fun K hK => ?_
  unfold Oper.wp
  simp [execOp, ho, resolve, invoke, builtin, hs, hx, hrun, Result.andThen]
  exact hK _ _ (h a' n' c' w' h1 h2 h3)

/-- What is told of a letter. -/
def Lt.key (q : Lt) : Int × Int × List Int := (q.f, q.t, q.bs)

/-- A letter's bytes. -/
def Lt.sl (q : Lt) : Value := .slice q.a q.n q.c

/-- A row of copies made since w0. -/
structure WayAt (w0 wr : World) (v : Value) (l' : List Lt) : Prop where
  own : wr.ownsRow 0 27 3 v l'.length (flat l')
  new : ∀ k, v.ownBlock = some k → w0.heap.size ≤ k
  mine : ∀ q ∈ l', Own wr q.sl q.bs ∧ ∀ k, q.sl.ownBlock = some k → w0.heap.size ≤ k ∧ v.ownBlock ≠ some k

theorem WayAt.later {w0 w w' : World} {v : Value} {l : List Lt} (h : WayAt w0 w v l) (b : Below w.heap.size w w') : WayAt w0 w' v l :=
  ⟨(Keeps.of_below b (S := fun _ => False)).owns h.own (fun _ _ h => h), h.new, fun q hq => ⟨(h.mine q hq).1.keeps (Keeps.of_below b (S := fun _ => False)) (fun _ _ h => h), (h.mine q hq).2⟩⟩

theorem wayAt_add {w0 wb w2 w3 : World} {v v' : Value} {l : List Lt} {f t : Int} {a1 : Option Addr} {n1 c1 : Nat} {bs : List Int} {X : Obj} (h : WayAt w0 wb v l) (hs : w0.heap.size ≤ wb.heap.size) (B : Below wb.heap.size wb w2)
    (O : Own w2 (.slice a1 n1 c1) bs) (F : ∀ k, (Value.slice a1 n1 c1).ownBlock = some k → wb.heap.size ≤ k)
    (O3 : w3.ownsRow 0 27 3 v' (l ++ [Lt.mk f t a1 n1 c1 bs]).length (flat (l ++ [Lt.mk f t a1 n1 c1 bs])))
    (K3 : Keeps (w2.alloc X) w3 (fun k => v.ownBlock = some k)) (F3 : Fresh (w2.alloc X) v v') : WayAt w0 w3 v' (l ++ [Lt.mk f t a1 n1 c1 bs]) ∧ Keeps wb w3 (fun k => v.ownBlock = some k) := by
  have hs2 := B.size
  have KA := Keeps.alloc w2 X (fun k => v.ownBlock = some k)
  refine ⟨⟨O3, fun k hk => ?_, ?_⟩, ((Keeps.of_below B).trans KA (fun _ _ h => h)).trans K3 (fun _ _ h => h)⟩
  · rcases F3 k hk with e | e
    · exact h.new k e
    · simp at e; omega
  · have far : ∀ q : Lt, Own w2 q.sl q.bs → (∀ k, q.sl.ownBlock = some k → w0.heap.size ≤ k ∧ v.ownBlock ≠ some k) → Own w3 q.sl q.bs ∧ ∀ k, q.sl.ownBlock = some k → w0.heap.size ≤ k ∧ v'.ownBlock ≠ some k := by
      intro q hq hx
      refine ⟨(hq.keeps KA (fun k hk e => (hx k hk).2 e)).keeps K3 (fun k hk e => (hx k hk).2 e), fun k hk => ⟨(hx k hk).1, fun e => ?_⟩⟩
      rcases F3 k e with e4 | e4
      · exact (hx k hk).2 e4
      · have := hq.lt hk
        simp at e4; omega
    intro q hq
    rcases List.mem_append.1 hq with hq | hq
    · obtain ⟨h1, h2⟩ := (h.later B).mine q hq
      exact far q h1 h2
    · simp only [List.mem_singleton] at hq
      subst hq
      refine far _ O (fun k hk => ?_)
      have hge := F k hk
      refine ⟨by omega, fun e => ?_⟩
      have := (World.ownsRow.lt h.own _ e).2
      omega

def WayRel (w : World) (l : List Lt) (t3 t11 : Value) (wr : World) : Prop :=
  ∃ (a : Option Addr) (c k : Nat) (l' : List Lt), t3 = .slice a k c ∧ t11 = .int .i64 k ∧ k ≤ l.length ∧ l'.length = k ∧ Hid (WayAt w wr (.slice a k c) l') ∧ Hid (l'.map Lt.key = (l.take k).map Lt.key) ∧ Hid (Below w.heap.size w wr)

theorem heap_lt_of_row {w : World} {v : Value} {n : Nat} {xs : List Value} {k : Nat} (h : w.ownsRow 0 27 3 v n xs) (hk : v.ownBlock = some k) : k < w.heap.size := (World.ownsRow.lt h k hk).2

set_option maxRecDepth 100000 in
set_option maxHeartbeats 4000000 in
theorem way_ok {w : World} {o : Nat} {v : Value} {l : List Lt} (h : NetAt w 47 o v l) (hl : l.length ≤ 300) (hb : ∀ q ∈ l, q.n ≤ 140737488355328) :
    Calls Try.prog 14 #[.pointer (some ⟨o, 0, none⟩)] w fun e w' => ∃ (a : Option Addr) (n c : Nat) (l' : List Lt), e = .returned (.slice a n c) ∧ n = l.length ∧ WayAt w w' (.slice a n c) l' ∧ l'.map Lt.key = l.map Lt.key ∧ Below w.heap.size w w' := by
  have H := Lib.hid h
  have HB := Lib.hid hb
  obtain ⟨ar, cr, hv⟩ := row_form h.own
  have c0 : w.cell? ⟨o, 0, none⟩ = some (.slice ar l.length cr) := by rw [cell_of h.cells, hv]; rfl
  have V := Lib.hid hv
  have W0 : Hid (WayAt w w (.slice none 0 0) []) := Lib.hid ⟨World.ownsRow_nil _ 0 27 3, fun k hk => by simp [Value.ownBlock] at hk, fun q hq => by cases hq⟩
  clear h hb hv
  go_enter Try.func14, Try.ntmps14
  go_wp2
  clear c0
  go_loopw [3, 11] (fun t3 t11 wr => WayRel w l t3 t11 wr) (fun _ t11 _ => l.length - (intOf t11).toNat)
  case atStart => exact ⟨none, 0, 0, [], rfl, rfl, Nat.zero_le _, rfl, W0, Lib.hid rfl, Lib.hid (Below.refl _ w)⟩
  case round =>
    obtain ⟨a, c, k, l', rfl, rfl, hk, hlen, Y, E, B⟩ := hrel
    have hkw : IntKind.i64.wrap ((k : Int) + 1) = (k : Int) + 1 := IntWalk.i64_in _ (by omega)
    by_cases hlt : k < l.length
    · obtain ⟨q, hq⟩ : ∃ q, l[k]? = some q := ⟨_, List.getElem?_eq_getElem hlt⟩
      have N := H.out.later B.out
      obtain ⟨g, cp, hv2, hg, d0, d1, d2, _⟩ := row_cells N.own hq
      rw [V.out] at hv2
      cases hv2
      have HQ := Lib.hid hq
      have LEN := Lib.hid hlen
      have QN := HB.out q (List.mem_of_getElem? hq)
      have BA : Hid (Below wr.heap.size wr (wr.alloc (.cells #[.int .i64 q.f, .int .i64 q.t, .slice q.a q.n q.c] 27))) := Lib.hid ((Below.refl _ wr).alloc (Nat.le_refl _) _)
      have QO : Hid (LtOk (wr.alloc (.cells #[.int .i64 q.f, .int .i64 q.t, .slice q.a q.n q.c] 27)) q (Foot o v)) := Lib.hid ((N.later BA.out).lts q (List.mem_of_getElem? hq))
      clear hq hg hlen N
      go_wp2_with fail
      refine (copied_ok q QO.out QN).mono ?_
      rintro e w2 ⟨a1, n1, c1, rfl, ho, hbl, hf⟩
      have O1 := Lib.hid ho
      have B2 : Hid (Below wr.heap.size wr w2) := Lib.hid (BA.out.trans (hbl.mono BA.out.size))
      have F1 : Hid (∀ j, (Value.slice a1 n1 c1).ownBlock = some j → wr.heap.size ≤ j) := Lib.hid (fun j hj => by have := hf j hj; simp at this; omega)
      have YO : Hid ((w2.alloc (.cells #[.int .i64 q.f, .int .i64 q.t, .slice a1 n1 c1] 27)).ownsRow 0 27 3 (.slice a k c) l'.length (flat l')) := Lib.hid ((Y.out.later B2.out).later ((Below.refl _ w2).alloc (Nat.le_refl _) _)).own
      clear ho hbl hf
      simp only [Lt.agg]
      go_wp2_with (at_builtin; refine app27_law rfl _ _ rfl (.slice a k c) l' rfl YO.out ⟨w2.heap.size, 0, none⟩ 1 ⟨q.f, q.t, a1, n1, c1, q.bs⟩ rfl (vals_block w2 ⟨q.f, q.t, a1, n1, c1, q.bs⟩) (by have := LEN.out; omega) ?_)
      intro a2 n2 c2 w3 ho3 hk3 hf3
      have hn2 : n2 = k + 1 := by
        have h1 := ho3.2
        have h2 := LEN.out
        rcases h1 with ⟨e, h0⟩ | ⟨g, cap, cur, e, _⟩
        · simp at h0
        · cases e; simp [h2]
      subst hn2
      obtain ⟨Y3, K3⟩ := wayAt_add (f := q.f) (t := q.t) Y.out B.out.size B2.out O1.out F1.out (by rw [List.length_append]; exact ho3) hk3 hf3
      have Y4 := Lib.hid Y3
      have B4 : Hid (Below w.heap.size w w3) := Lib.hid (B.out.trans (K3.under B.out.size (fun i e => Y.out.new i e)))
      have E4 : Hid ((l' ++ [Lt.mk q.f q.t a1 n1 c1 q.bs]).map Lt.key = (l.take (k + 1)).map Lt.key) := Lib.hid (by
        rw [List.map_append, E.out, List.take_add_one, HQ.out]
        simp [Lt.key])
      clear ho3 hk3 hf3 Y3 K3
      go_wp2
      go_roundw
      case rel => exact ⟨a2, c2, k + 1, _, by go_num, by go_num, by omega, by simp [LEN.out], Y4, E4, B4⟩
      case measure => simp [intOf]; omega
    · have hkl : k = l.length := by omega
      subst hkl
      go_wp2
      go_ret
      exact ⟨a, _, c, l', rfl, rfl, Y.out, by rw [E.out, List.take_length], B.out⟩

theorem flat_set : ∀ (l : List Lt) (k : Nat) (q : Lt) (a : Option Addr) (n c : Nat) (bs : List Int), l[k]? = some q → flat (l.set k ⟨q.f, q.t, a, n, c, bs⟩) = (flat l).set (k * 3 + 2) (.slice a n c)
  | [], k, q, a, n, c, bs, h => by simp at h
  | p :: l, 0, q, a, n, c, bs, h => by
    simp at h
    subst h
    simp [flat_cons, Lt.vals]
  | p :: l, k + 1, q, a, n, c, bs, h => by
    have := flat_set l k q a n c bs (by simpa using h)
    rw [List.set_cons_succ, flat_cons, flat_cons, this, show (k + 1) * 3 + 2 = p.vals.length + (k * 3 + 2) by simp [Lt.vals]; omega]
    simp [Lt.vals, show 3 + (k * 3 + 2) = k * 3 + 2 + 1 + 1 + 1 by omega]

/-- One letter's bytes are set. -/
theorem turn_end {w w2 : World} {o g m c k : Nat} {l : List Lt} {q : Lt} {a1 : Option Addr} {n1 c1 : Nat} {bs : List Int} (H : NetAt w 47 o (.slice (some ⟨g, 0, none⟩) m c) l) (hm : l.length = m) (hq : l[k]? = some q) (B : Below w.heap.size w w2)
    (O : Own w2 (.slice a1 n1 c1) bs) (F : ∀ j, (Value.slice a1 n1 c1).ownBlock = some j → w.heap.size ≤ j) :
    NetPost w o (.slice (some ⟨g, 0, none⟩) m c) l (l.set k ⟨q.f, q.t, a1, n1, c1, bs⟩) (w2.setCell ⟨g, k * 3 + 2, none⟩ (.slice a1 n1 c1)) := by
  subst hm
  have N := H.later B
  have hk : k < l.length := (List.getElem?_eq_some_iff.1 hq).1
  have hog : o ≠ g := fun e => H.apart (by rw [e]; rfl)
  have hg1 : g < w.heap.size := (World.ownsRow.lt H.own g rfl).2
  have ho1 := heap_lt H.cells
  have KF : Keeps w2 (w2.setCell ⟨g, k * 3 + 2, none⟩ (.slice a1 n1 c1)) (fun i => i = g) := Keeps.setCell _ _ _ rfl
  refine ⟨.slice (some ⟨g, 0, none⟩) l.length c, ⟨KF.heap N.cells hog, ?_, H.apart, ?_⟩, (Keeps.of_below B).trans KF (fun i _ e => .inr (by rw [e]; rfl)), fun i hi => .inl hi, ?_⟩
  · rcases N.own with ⟨h1, ⟨e, _⟩ | ⟨g', cap, cur, e, hb, hg, hn, hcm, hs, ht⟩⟩
    · cases e
    · cases e
      refine ⟨by rw [flat_length], .inr ⟨g, c, _, by simp, hb, heap_setCell_at hg (k * 3 + 2) (.slice a1 n1 c1), by simpa using hn, hcm, ?_, ?_⟩⟩
      · simp [hs]
      · rw [flat_set l k q a1 n1 c1 bs hq, ← ht]
        simp [List.take_set]
  · intro p hp
    rcases List.mem_or_eq_of_mem_set hp with h | h
    · have hw := N.lts p h
      have h1 := hw.keeps KF (fun x hx hpos e => hw.away x hx hpos (.inr (by rw [e]; rfl)))
      exact ⟨h1.reads, h1.len, h1.none, h1.away⟩
    · subst h
      have OE := O.keeps KF (fun i hi e => by have := F i hi; omega)
      obtain ⟨hr, hlen⟩ := OE.reads
      have hnone : a1 = none → c1 = 0 := by obtain ⟨_, _, e, _, _, h, _⟩ := OE.form; cases e; exact h
      refine ⟨hr, hlen, hnone, fun x hx hpos e => ?_⟩
      have hx' : a1 = some x := hx
      subst hx'
      have hge := F x.block rfl
      rcases e with e | e
      · omega
      · have : g = x.block := by simpa [Value.ownBlock] using e
        omega
  · intro p hp
    rcases List.mem_or_eq_of_mem_set hp with h | h
    · exact .inl h
    · subst h
      right
      intro x hx hpos
      have hx' : a1 = some x := hx
      subst hx'
      exact F x.block rfl

theorem row_set {w : World} {o g m c k : Nat} {l : List Lt} {q : Lt} (H : NetAt w 47 o (.slice (some ⟨g, 0, none⟩) m c) l) (hq : l[k]? = some q) :
    w.cell? ⟨g, k * 3 + 2, none⟩ = some (.slice q.a q.n q.c) ∧ w.frozen? ⟨g, k * 3 + 2, none⟩ = false := by
  obtain ⟨g', cp, hv2, hg, d0, d1, d2, fz⟩ := row_cells H.own hq
  cases hv2
  exact ⟨d2, fz _⟩

/-- What Turn answers. -/
def TurnPost (w : World) (o : Nat) (v : Value) (l : List Lt) (i : Int) (n : Nat) (bs : List Int) (e : Ending) (w' : World) : Prop :=
  ((l = [] ∨ 16384 < n) ∧ e = .returned (.bool false) ∧ w' = w) ∨
    ∃ (k : Nat) (q : Lt) (a' : Option Addr) (n' c' : Nat), placeOf l.length i = k ∧ l[k]? = some q ∧ n ≤ 16384 ∧ e = .returned (.bool true) ∧ NetPost w o v l (l.set k ⟨q.f, q.t, a', n', c', bs⟩) w'

theorem Reads.drew {w : World} {a : Option Addr} {xs : List Int} (h : Reads w a xs) : Reads w.drew a xs := h

set_option maxRecDepth 100000 in
set_option maxHeartbeats 4000000 in
theorem turn_ok {w : World} {o : Nat} {v : Value} {l : List Lt} (h : NetAt w 47 o v l) (i : Int) (hl : l.length ≤ 300) (a : Option Addr) (n c : Nat) (bs : List Int) (hr : Reads w a bs) (hlen : bs.length = n) :
    Calls Try.prog 20 #[.pointer (some ⟨o, 0, none⟩), .int .i64 i, .slice a n c] w (TurnPost w o v l i n bs) := by
  have H := Lib.hid h
  have R := Lib.hid hr.drew
  have LN := Lib.hid hlen
  obtain ⟨ar, cr, hv⟩ := row_form h.own
  have c0 : w.cell? ⟨o, 0, none⟩ = some v := by rw [cell_of h.cells]; rfl
  clear h hr hlen
  by_cases h0 : l.length = 0
  · have hp : placeOf l.length i = -1 := by unfold placeOf; rw [if_pos h0]
    have E0 := Lib.hid h0
    subst hv
    clear h0
    go_enter Try.func20, Try.ntmps20
    go_wp2_with fail
    refine (place_ok H.out i (by omega)).mono ?_
    rintro e w1 ⟨rfl, rfl⟩
    rw [hp]
    clear hp
    go_wp2
    go_ret
    exact .inl ⟨.inl (List.eq_nil_of_length_eq_zero E0.out), rfl, rfl⟩
  · obtain ⟨k, hp, hk⟩ := placeOf_lt i (show 0 < l.length by omega)
    obtain ⟨q, hq⟩ : ∃ q, l[k]? = some q := ⟨_, List.getElem?_eq_getElem hk⟩
    have HP := Lib.hid hp
    have HQ := Lib.hid hq
    obtain ⟨g, cp, hv2, hg, d0, d1, d2, fz⟩ := row_cells H.out.own hq
    rw [hv] at hv2
    cases hv2
    subst hv
    have FZ := Lib.hid fz
    have hnk : ¬ ((k : Int) < 0) := by omega
    by_cases hn : 16384 < n
    · have hni : (16384 : Int) < n := by omega
      clear h0 hq hg fz
      go_enter Try.func20, Try.ntmps20
      go_wp2_with fail
      refine (place_ok H.out i (by omega)).mono ?_
      rintro e w1 ⟨rfl, rfl⟩
      rw [hp]
      clear hp
      go_wp2_with fail
      refine (long_ok _ _ _ _).mono ?_
      rintro e w1 ⟨rfl, rfl⟩
      rw [decide_eq_true hni]
      go_wp2
      go_ret
      exact .inl ⟨.inr hn, rfl, rfl⟩
    · have hni : ¬ (16384 : Int) < n := by omega
      have hog : o ≠ g := fun e => H.out.apart (by rw [e]; rfl)
      clear h0 hq hg fz
      go_enter Try.func20, Try.ntmps20
      go_wp2_with fail
      refine (place_ok H.out i (by omega)).mono ?_
      rintro e w1 ⟨rfl, rfl⟩
      rw [hp]
      clear hp
      go_wp2_with fail
      refine (long_ok _ _ _ _).mono ?_
      rintro e w1 ⟨rfl, rfl⟩
      rw [decide_eq_false (show ¬ (16384 : Int) < n by omega)]
      go_wp2
      have HD : Hid (NetAt w.drew 47 o (.slice (some ⟨g, 0, none⟩) l.length cr) l) := Lib.hid (H.out.later (below_drew w))
      go_region_with (go_at_call 25; (refine (clone_ok a n c bs _ R.out LN.out (by omega)).mono ?_; rintro e w2 ⟨a1, n1, c1, rfl, ho, hbl, hf⟩; have c2 : w2.cell? ⟨o, 0, none⟩ = some (.slice (some ⟨g, 0, none⟩) l.length cr) := (cell_of (HD.out.later (w' := w2) hbl).cells 0).trans rfl; have e2 := (row_set (HD.out.later (w' := w2) hbl) HQ.out).1; have f2 := (row_set (HD.out.later (w' := w2) hbl) HQ.out).2))
      all_goals
        have B2 : Hid (Below w.heap.size w w2) := Lib.hid ((below_drew w).trans hbl)
        have O1 := Lib.hid ho
        have F1 : Hid (∀ j, (Value.slice a1 n1 c1).ownBlock = some j → w.heap.size ≤ j) := Lib.hid (fun j hj => hf j hj)
        clear hbl ho hf
        go_wp2
        go_ret
        exact .inr ⟨k, q, a1, n1, c1, HP.out, HQ.out, by omega, rfl, turn_end H.out rfl HQ.out B2.out O1.out F1.out⟩
end Go.Proofs.Ytalhpicnepofaaa
