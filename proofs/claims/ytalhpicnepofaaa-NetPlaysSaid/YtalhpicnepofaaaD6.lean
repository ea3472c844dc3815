/- The walk of NetPlays. -/
import Derived.Test.YtalhpicnepofaaaD5
import Derived.Deep.CutRange
import Derived.Deep.CutBlock
import Derived.Deep.RegionHeld3
namespace Go.Proofs.Ytalhpicnepofaaa
open Go.RowKit
set_option linter.unusedVariables false
set_option linter.unusedSimpArgs false

def PlaysRel (W : World) (nl o o' : Nat) (t : Value) (wr : World) : Prop :=
  ∃ (k : Nat) (v v' : Value) (ks : List Key), t = .int .i64 k ∧ k ≤ nl ∧ Hid (Pr W wr o v ks o' v' ks)

theorem Pr.below {W w : World} {o o' : Nat} {v v' : Value} {ks ks' : List Key} (h : Pr W w o v ks o' v' ks') : Below W.heap.size W w := by
  obtain ⟨l, l', p, _⟩ := h
  exact p.below
theorem Pr.ok {W w : World} {o o' : Nat} {v v' : Value} {ks ks' : List Key} (h : Pr W w o v ks o' v' ks') : KsOk ks := by
  obtain ⟨l, l', p, _, _, k, _⟩ := h
  exact k
theorem Pr.feet {W w : World} {o o' : Nat} {v v' : Value} {ks ks' : List Key} (h : Pr W w o v ks o' v' ks') (i : Nat) (hi : Foot o v i ∨ Foot o' v' i) : W.heap.size ≤ i ∧ i < w.heap.size := by
  obtain ⟨l, l', p, _⟩ := h
  rcases hi with e | e
  · exact ⟨p.newN i e, p.net.footlt e⟩
  · exact ⟨p.newR i e, p.ref.footlt e⟩

theorem pr_start {W w w1 : World} {o : Nat} (B : Below W.heap.size W w) (n : NetAt w1 47 o (.slice none 0 0) []) (ho : w.heap.size ≤ o) (b : Below w.heap.size w w1) :
    Pr W (w1.alloc (.cells #[.slice none 0 0] 40)) o (.slice none 0 0) [] w1.heap.size (.slice none 0 0) [] := by
  have hs := B.size
  have hs1 := b.size
  have BX : Below w1.heap.size w1 (w1.alloc (.cells #[.slice none 0 0] 40)) := (Below.refl _ w1).alloc (Nat.le_refl _) _
  have hlt := heap_lt n.cells
  refine ⟨[], [], ⟨n.later BX, ⟨heap_alloc_new _ _, World.ownsRow_nil _ 0 27 3, by simp [Value.ownBlock], fun q hq => (by cases hq)⟩, (B.trans (b.mono hs)).trans (BX.mono (by omega)), ?_, ?_, ?_, fun q hq => (by cases hq), fun q hq => (by cases hq)⟩, rfl, rfl, ⟨by simp, fun _ h => (by cases h)⟩, ⟨by simp, fun _ h => (by cases h)⟩⟩
  · rintro i (e | e)
    · omega
    · simp [Value.ownBlock] at e
  · rintro i (e | e)
    · omega
    · simp [Value.ownBlock] at e
  · rintro i (e | e) (e' | e')
    · omega
    · simp [Value.ownBlock] at e'
    · simp [Value.ownBlock] at e
    · simp [Value.ownBlock] at e

theorem not_foot {W w : World} {o o' : Nat} {v v' : Value} {ks ks' : List Key} (h : Pr W w o v ks o' v' ks') {B : Nat} {cs : Array Value} {f : Nat × Nat} (hB : w.heap[B]? = some (.cells cs 42 f)) : ¬ Foot o v B ∧ ¬ Foot o' v' B := by
  obtain ⟨l, l', p, _⟩ := h
  have row : ∀ {u : Value} {n : Nat} {ys : List Value}, w.ownsRow 0 27 3 u n ys → u.ownBlock ≠ some B := by
    intro u n ys h2 hu
    rcases h2.2 with ⟨e', _⟩ | ⟨g', cap', cur', e', _, hg', _⟩
    · rw [e'] at hu; cases hu
    · rw [e'] at hu
      have a2 : g' = B := by simpa [Value.ownBlock] using hu
      subst a2
      rw [hB] at hg'
      simp at hg'
  constructor
  · rintro (e | e)
    · have := p.net.cells
      rw [← e, hB] at this
      simp at this
    · exact row p.net.own e
  · rintro (e | e)
    · have := p.ref.cells
      rw [← e, hB] at this
      simp at this
    · exact row p.ref.own e

theorem ArgLt.step {W w w' : World} {q : Lt} {S : Nat → Prop} (h : ArgLt W w q) (k : Keeps w w' S) (hs : ∀ i, S i → W.heap.size ≤ i) : ArgLt W w' q :=
  LtOk.keeps h k (fun x hx hp e => h.away x hx hp (hs _ e))
theorem n_send_arg {W w : World} {o o' : Nat} {v v' : Value} {ks ks' : List Key} (h : Pr W w o v ks o' v' ks') (q : Lt) (hq : ArgLt W w q) (hm : q.n ≤ 9223372036854775807) :
    Calls Try.prog 8 #[.pointer (some ⟨o, 0, none⟩), q.agg] w fun e w' => e = .returned (.bool (sendB ks q.key)) ∧ ∃ v1, Pr W w' o v1 (sendK ks q.key) o' v' ks' ∧ Keeps w w' (Foot o v) :=
  n_send h q ⟨hq.reads, hq.len, hq.none, fun x hx hp e => hq.away x hx hp (h.feet _ (.inl e)).1⟩ hm

def tkB (ks : List Key) : Bool := decide (ks ≠ [])
def tkKey (ks : List Key) (i : Int) : Key := (ks[(placeOf ks.length i).toNat]?).getD (0, 0, [])
def tkK (ks : List Key) (i : Int) : List Key := ks.eraseIdx (placeOf ks.length i).toNat

theorem zero_lt (w : World) (S : Nat → Prop) : LtOk w zeroLt S := ltOk_plain w 0 0 S

theorem n_take2 {W w : World} {o o' : Nat} {v v' : Value} {ks ks' : List Key} (h : Pr W w o v ks o' v' ks') (i : Int) :
    Calls Try.prog 9 #[.pointer (some ⟨o, 0, none⟩), .int .i64 i] w fun e w' => ∃ (q : Lt) (v1 : Value), e = .returned (.tuple #[q.agg, .bool (tkB ks)]) ∧ q.key = tkKey ks i ∧ LtOk w' q (Foot o' v') ∧ Pr W w' o v1 (tkK ks i) o' v' ks' ∧ Keeps w w' (Foot o v) := by
  refine (n_take h i).mono ?_
  rintro e w' ⟨kp, ⟨h0, rfl, v1, hp⟩ | ⟨k, q, h1, h2, rfl, h3, v1, hp⟩⟩
  · subst h0
    exact ⟨zeroLt, v1, rfl, rfl, zero_lt _ _, hp, kp⟩
  · have hne : ks ≠ [] := fun e => by rw [e] at h2; simp at h2
    refine ⟨q, v1, by unfold tkB; rw [decide_eq_true hne], ?_, h3, ?_, kp⟩
    · unfold tkKey; rw [h1]; simp [h2]
    · unfold tkK; rw [h1]; exact hp

theorem r_take2 {W w : World} {o o' : Nat} {v v' : Value} {ks ks' : List Key} (h : Pr W w o v ks o' v' ks') (i : Int) :
    Calls Try.prog 18 #[.pointer (some ⟨o', 0, none⟩), .int .i64 i] w fun e w' => ∃ (q : Lt) (v1 : Value), e = .returned (.tuple #[q.agg, .bool (tkB ks')]) ∧ q.key = tkKey ks' i ∧ LtOk w' q (fun _ => False) ∧ Pr W w' o v ks o' v1 (tkK ks' i) ∧ Keeps w w' (Foot o' v') := by
  refine (r_take h i).mono ?_
  rintro e w' ⟨kp, ⟨h0, rfl, v1, hp⟩ | ⟨k, q, h1, h2, rfl, h3, v1, hp⟩⟩
  · subst h0
    exact ⟨zeroLt, v1, rfl, rfl, zero_lt _ _, hp, kp⟩
  · have hne : ks' ≠ [] := fun e => by rw [e] at h2; simp at h2
    refine ⟨q, v1, by unfold tkB; rw [decide_eq_true hne], ?_, h3, ?_, kp⟩
    · unfold tkKey; rw [h1]; simp [h2]
    · unfold tkK; rw [h1]; exact hp

theorem ltOk_loose {w : World} {q : Lt} {S : Nat → Prop} (h : LtOk w q S) : LtOk w q (fun _ => False) := ⟨h.reads, h.len, h.none, fun _ _ _ h => h⟩

/-- What is held over the region that compares. -/
def Held2 (W w : World) (o : Nat) (v : Value) (ks : List Key) (o' : Nat) (v' : Value) (q1 q : Lt) : Prop := Pr W w o v ks o' v' ks ∧ LtOk w q1 (fun _ => False) ∧ LtOk w q (fun _ => False)
theorem same_ok2 {W w : World} {o o' : Nat} {v v' : Value} {ks : List Key} {q1 q : Lt} (h : Hid (Held2 W w o v ks o' v' q1 q)) (hk : q1.key = q.key) :
    Calls Try.prog 19 #[q1.agg, q.agg] w fun e w' => e = .returned (.bool true) ∧ (∀ a u, w.cell? a = some u → w'.cell? a = some u) ∧ Hid (Held2 W w' o v ks o' v' q1 q) := by
  refine (same_ok q1 q h.out.2.1 h.out.2.2 hk).mono ?_
  rintro e w' ⟨rfl, hb⟩
  exact ⟨rfl, fun a u hc => (Keeps.of_below hb (S := fun _ => False)).cell_some hc (fun h => h), Lib.hid ⟨h.out.1.later hb, h.out.2.1.later hb, h.out.2.2.later hb⟩⟩
theorem held_pr {W w : World} {o o' : Nat} {v v' : Value} {ks : List Key} {q1 q : Lt} (h : Hid (Held2 W w o v ks o' v' q1 q)) : Hid (Pr W w o v ks o' v' ks) := Lib.hid h.out.1

def WayR (W wy : World) (o : Nat) (v : Value) (ks : List Key) (o' : Nat) (v' : Value) (aw : Option Addr) (cw : Nat) (lw : List Lt) (t : Value) (wq : World) : Prop :=
  ∃ j : Nat, t = .int .i64 j ∧ j ≤ ks.length ∧ Hid (Pr W wq o v ks o' v' ks) ∧ Hid (WayAt wy wq (.slice aw ks.length cw) lw)

theorem way_row {wy w : World} {v : Value} {lw : List Lt} {j : Nat} {q : Lt} (h : WayAt wy w v lw) (hq : lw[j]? = some q) :
    ∃ g c, v = .slice (some ⟨g, 0, none⟩) lw.length c ∧ w.cell? ⟨g, j * 3, none⟩ = some (.int .i64 q.f) ∧ w.cell? ⟨g, j * 3 + 1, none⟩ = some (.int .i64 q.t) ∧ w.cell? ⟨g, j * 3 + 2, none⟩ = some (.slice q.a q.n q.c) ∧ LtOk w q (fun _ => False) := by
  obtain ⟨g, c, hv, _, c0, c1, c2, _⟩ := row_cells h.own hq
  exact ⟨g, c, hv, c0, c1, c2, own_lt (f := q.f) (t := q.t) (h.mine q (List.mem_of_getElem? hq)).1 (fun _ _ h => h)⟩

/-- What is held over the last comparisons. -/
def Held3 (W wy w : World) (o : Nat) (v : Value) (ks : List Key) (o' : Nat) (v' : Value) (vw : Value) (lw : List Lt) (q1 q : Lt) : Prop := Pr W w o v ks o' v' ks ∧ LtOk w q1 (fun _ => False) ∧ LtOk w q (fun _ => False) ∧ WayAt wy w vw lw
theorem same_ok3 {W wy w : World} {o o' : Nat} {v v' vw : Value} {ks : List Key} {lw : List Lt} {q1 q : Lt} (h : Hid (Held3 W wy w o v ks o' v' vw lw q1 q)) (hk : q1.key = q.key) :
    Calls Try.prog 19 #[q1.agg, q.agg] w fun e w' => e = .returned (.bool true) ∧ (∀ a u, w.cell? a = some u → w'.cell? a = some u) ∧ Hid (Held3 W wy w' o v ks o' v' vw lw q1 q) := by
  refine (same_ok q1 q h.out.2.1 h.out.2.2.1 hk).mono ?_
  rintro e w' ⟨rfl, hb⟩
  exact ⟨rfl, fun a u hc => (Keeps.of_below hb (S := fun _ => False)).cell_some hc (fun h => h), Lib.hid ⟨h.out.1.later hb, h.out.2.1.later hb, h.out.2.2.1.later hb, h.out.2.2.2.later hb⟩⟩
theorem held3_pr {W wy w : World} {o o' : Nat} {v v' vw : Value} {ks : List Key} {lw : List Lt} {q1 q : Lt} (h : Hid (Held3 W wy w o v ks o' v' vw lw q1 q)) : Hid (Pr W w o v ks o' v' ks) ∧ Hid (WayAt wy w vw lw) := ⟨Lib.hid h.out.1, Lib.hid h.out.2.2.2⟩

theorem AcAt.later {w w' : World} {b off : Nat} {p : Ac} (h : AcAt w b off p) (bl : Below w.heap.size w w') : AcAt w' b off p := by
  have k := Keeps.of_below bl (S := fun _ => False)
  exact ⟨k.cell_some h.c0 (fun h => h), k.cell_some h.c1 (fun h => h), k.cell_some h.c2 (fun h => h), k.cell_some h.c3 (fun h => h), k.cell_some h.c4 (fun h => h), h.kind, h.ok.later bl, h.cap⟩
theorem acs_later {w w' : World} {a : Option Addr} {l : List Ac} (h : AcsAt w a l) (b : Below w.heap.size w w') : AcsAt w' a l := by
  refine ⟨h.1, fun i p hp => ?_⟩
  obtain ⟨bl, off, e, ha⟩ := h.2 i p hp
  exact ⟨bl, off, e, ha.later b⟩
theorem arg_lt {W w : World} {a : Option Addr} {l : List Ac} {k : Nat} {p : Ac} {b off : Nat} (h : AcsAt W a l) (bl : Below W.heap.size W w) (hp : l[k]? = some p) (ha : AcAt w b off p) : ArgLt W w p.q := by
  obtain ⟨_, _, _, h1⟩ := h.2 k p hp
  refine ⟨ha.ok.reads, ha.ok.len, ha.ok.none, fun x hx hn e => ?_⟩
  have := h1.ok.lt hx hn
  omega

set_option maxRecDepth 1000000 in
set_option maxHeartbeats 60000000 in
theorem netPlays_walk (al : Option Addr) (nl cl : Nat) (l : List Ac) (w : World) (hL : AcsAt w al l) (hll : l.length = nl) (hbig : nl ≤ maxLen) :
    Calls Try.prog 6 #[.slice al nl cl] w fun e w' => e = .returned (.bool true) ∧ Below w.heap.size w w' := by
  have AL := Lib.hid hL
  have LL := Lib.hid hll
  have hbig' : nl ≤ 9223372036854775807 := by unfold maxLen at hbig; omega
  clear hL hll
  go_enter Try.func6, Try.ntmps6
  go_wp2_with fail
  refine (awake_ok w).mono ?_
  rintro e w1 ⟨rfl, b1⟩
  have B1 := Lib.hid b1
  have A1 : Hid (AcsAt w1 al l) := Lib.hid (acs_later AL.out b1)
  clear b1
  go_wp2_with fail
  refine (few_ok al nl cl l A1.out LL.out hbig').mono ?_
  rintro e w2 ⟨r, rfl, rfl, hr⟩
  cases r with
  | false =>
    clear hr
    go_wp2_with fail
    refine (awake_ok w1).mono ?_
    rintro e w2 ⟨rfl, b2⟩
    have B2 := Lib.hid b2
    clear b2
    go_wp2
    go_ret
    exact ⟨rfl, B1.out.trans (B2.out.mono B1.out.size)⟩
  | true =>
    have hnl := hr rfl
    clear hr
    go_wp2_with fail
    refine (new_ok w1).mono ?_
    rintro e w2 ⟨o, rfl, h1, h2, h3⟩
    have P0 : Hid (Pr w (w2.alloc (.cells #[.slice none 0 0] 40)) o (.slice none 0 0) [] w2.heap.size (.slice none 0 0) []) := Lib.hid (pr_start B1.out h2 h1 h3)
    clear h1 h2 h3
    obtain ⟨o', ho'⟩ : ∃ o', o' = w2.heap.size := ⟨_, rfl⟩
    have HO' := Lib.hid ho'
    rw [← ho'] at P0
    go_wp2
    rw [← HO'.out]
    clear HO' ho'
    go_loopw [5] (fun t wr => PlaysRel w nl o o' t wr) (fun t _ => nl - (intOf t).toNat)
    case atStart => exact ⟨0, _, _, [], rfl, Nat.zero_le _, P0⟩
    case round =>
      obtain ⟨k, v, v', ks, rfl, hk, P⟩ := hrel
      have hkw : IntKind.i64.wrap ((k : Int) + 1) = (k : Int) + 1 := IntWalk.i64_in _ (by omega)
      by_cases hlt : k < nl
      · obtain ⟨bl, off, p, rfl, hp, hpa⟩ := ac_here (acs_later AL.out P.out.below) (k := k) (by rw [LL.out]; exact hlt)
        have d0 := hpa.c0
        have d1 := hpa.c1
        have d2 := hpa.c2
        have d3 := hpa.c3
        have d4 := hpa.c4
        have KD := Lib.hid hpa.kind
        have QA : Hid (ArgLt w wr p.q) := Lib.hid (arg_lt AL.out P.out.below hp hpa)
        have QM : Hid (p.q.n ≤ 9223372036854775807) := Lib.hid (by have := hpa.cap; unfold maxLen at this; omega)
        obtain ⟨wb, hwb⟩ : ∃ wb, wb = wr.alloc (.cells #[.int .u8 p.kind, .int .i64 p.i, .int .i64 p.q.f, .int .i64 p.q.t, .slice p.q.a p.q.n p.q.c] 42) := ⟨_, rfl⟩
        have HWB := Lib.hid hwb
        have bb : Below wr.heap.size wr wb := by rw [hwb]; exact (Below.refl _ wr).alloc (Nat.le_refl _) _
        have PB := Lib.hid (P.out.later bb)
        have QB : Hid (ArgLt w wb p.q) := Lib.hid (QA.out.later bb)
        have BB : Hid (wb.heap[wr.heap.size]? = some (.cells #[.int .u8 p.kind, .int .i64 p.i, .int .i64 p.q.f, .int .i64 p.q.t, .slice p.q.a p.q.n p.q.c] 42)) := Lib.hid (by rw [hwb]; exact heap_alloc_new _ _)
        clear hp hpa bb
        go_wp2_with fail
        rw [← HWB.out]
        clear hwb HWB d0 d1 d2 d3 d4
        have e0 := cell_of BB.out 0
        have e1 := cell_of BB.out 1
        have e2 : wb.cell? ⟨wr.heap.size, 2, none⟩ = some (.int .i64 p.q.f) := cell_of BB.out 2
        have e3 : wb.cell? ⟨wr.heap.size, 3, none⟩ = some (.int .i64 p.q.t) := cell_of BB.out 3
        have e4 : wb.cell? ⟨wr.heap.size, 4, none⟩ = some (.slice p.q.a p.q.n p.q.c) := cell_of BB.out 4
        refine (r_place PB.out p.i).mono ?_
        rintro e wc ⟨rfl, rfl⟩
        obtain ⟨pl, hpl⟩ : ∃ pl, pl = placeOf ks.length p.i := ⟨_, rfl⟩
        rw [← hpl]
        have PL := Lib.hid hpl
        clear hpl
        go_upto_block 2 with fail
        go_cut [] from 28 to 166 (fun wx => ∃ v9 v9' ks9, Hid (Pr w wx o v9 ks9 o' v9' ks9))
        case rest =>
          obtain ⟨v9, v9', ks9, P9⟩ := hcut
          clear P PB QB BB QA QM PL KD e0 e1 e2 e3 e4
          obtain ⟨ra, rc, _, hc0⟩ := r_len P9.out
          have PY := Lib.hid (P9.out.later (below_drew _))
          go_wp2
          go_region_with ((go_at_call 11; refine (n_count PY.out).mono ?_; rintro e wd ⟨rfl, rfl⟩))
          all_goals
            try simp only [List.getElem_toArray, List.getElem_cons_succ, List.getElem_cons_zero, Act.put, List.setIfInBounds_toArray, List.set_cons_zero, List.set_cons_succ]
            go_wp2
            go_roundw
            case rel => exact ⟨k + 1, _, _, _, by go_num, by omega, PY⟩
            case measure => simp [intOf]; omega
        case first =>
          have hkind : p.kind.tmod 5 = 0 ∨ p.kind.tmod 5 = 1 ∨ p.kind.tmod 5 = 2 ∨ p.kind.tmod 5 = 3 ∨ p.kind.tmod 5 = 4 := by
            rw [Int.tmod_eq_emod_of_nonneg KD.out.1]
            omega
          rcases hkind with h5 | h5 | h5 | h5 | h5
          · have t0 : (p.kind.tmod 5 == 0) = true := by rw [h5]; rfl
            clear h5
            have PX := Lib.hid (PB.out.later (below_drew _))
            have QX : Hid (ArgLt w wb.drew p.q) := Lib.hid (QB.out.later (below_drew _))
            have BX : Hid (wb.drew.heap[wr.heap.size]? = some (.cells #[.int .u8 p.kind, .int .i64 p.i, .int .i64 p.q.f, .int .i64 p.q.t, .slice p.q.a p.q.n p.q.c] 42)) := BB
            have hbb : (sendB ks p.q.key != sendB ks p.q.key) = false := by simp
            go_wp2
            go_region_with (first | (go_at_call 8; (refine (n_send_arg PX.out p.q QX.out QM.out).mono ?_; rintro e wc ⟨rfl, vc, hp, kp⟩; have BX := Lib.hid (kp.heap BX.out (not_foot PX.out BX.out).1); have QX := Lib.hid (ArgLt.step QX.out kp (fun i hi => (PX.out.feet i (.inl hi)).1)); have PX := Lib.hid hp; have e2 : wc.cell? ⟨wr.heap.size, 2, none⟩ = some (.int .i64 p.q.f) := cell_of BX.out 2; have e3 : wc.cell? ⟨wr.heap.size, 3, none⟩ = some (.int .i64 p.q.t) := cell_of BX.out 3; have e4 : wc.cell? ⟨wr.heap.size, 4, none⟩ = some (.slice p.q.a p.q.n p.q.c) := cell_of BX.out 4; clear hp kp)) | (go_at_call 17; (refine (r_send PX.out p.q QX.out).mono ?_; rintro e wc ⟨rfl, vc, hp, kp⟩; have PX := Lib.hid hp; clear hp kp)))
            all_goals
              try simp only [List.getElem_toArray, List.getElem_cons_succ, List.getElem_cons_zero, Act.put, List.setIfInBounds_toArray, List.set_cons_zero, List.set_cons_succ]
              go_wp2
              go_meet
              case rel => exact ⟨_, _, _, PX⟩
          · have t0 : (p.kind.tmod 5 == 0) = false := by rw [h5]; rfl
            have t1 : (p.kind.tmod 5 == 1) = true := by rw [h5]; rfl
            clear h5
            go_wp2_with fail
            refine (n_take2 PB.out p.i).mono ?_
            rintro e wc ⟨q1, v1, rfl, hk1, hq1, hp1, kp1⟩
            have BC := kp1.heap BB.out (not_foot PB.out BB.out).1
            have BX : Below wc.heap.size wc (wc.alloc (.cells #[.int .i64 q1.f, .int .i64 q1.t, .slice q1.a q1.n q1.c] 27)) := (Below.refl _ wc).alloc (Nat.le_refl _) _
            obtain ⟨wd, hwd⟩ : ∃ wd, wd = wc.alloc (.cells #[.int .i64 q1.f, .int .i64 q1.t, .slice q1.a q1.n q1.c] 27) := ⟨_, rfl⟩
            have HWD := Lib.hid hwd
            rw [← hwd] at BX
            have PD := Lib.hid (hp1.later BX)
            have Q1 := Lib.hid (hq1.later BX)
            have K1 := Lib.hid hk1
            have f1 : (wc.alloc (.cells #[.int .i64 q1.f, .int .i64 q1.t, .slice q1.a q1.n q1.c] 27)).cell? ⟨wr.heap.size, 1, none⟩ = some (.int .i64 p.i) := by rw [← hwd]; exact cell_of ((Keeps.of_below BX (S := fun _ => False)).heap BC (fun h => h)) 1
            have T8 : Hid (wd.heap[wc.heap.size]? = some (.cells #[.int .i64 q1.f, .int .i64 q1.t, .slice q1.a q1.n q1.c] 27)) := Lib.hid (by rw [hwd]; exact heap_alloc_new _ _)
            have F8 : Hid (¬ Foot o' v' wc.heap.size) := Lib.hid (fun e => by have := (hp1.feet _ (.inr e)).2; omega)
            clear hk1 hq1 hp1 kp1 BC BX
            simp only [Lt.agg]
            go_wp2_with fail
            rw [← HWD.out]
            clear hwd HWD
            refine (r_take2 PD.out p.i).mono ?_
            rintro e we ⟨q2, v2, rfl, hk2, hq2, hp2, kp2⟩
            have T9 := kp2.heap T8.out F8.out
            have BX : Below we.heap.size we (we.alloc (.cells #[.int .i64 q2.f, .int .i64 q2.t, .slice q2.a q2.n q2.c] 27)) := (Below.refl _ we).alloc (Nat.le_refl _) _
            have PE := Lib.hid (hp2.later BX)
            have Q1e := Lib.hid ((ltOk_loose (Q1.out.keeps kp2 (fun x hx hp e => Q1.out.away x hx hp e))).later BX)
            have Q2e := Lib.hid (hq2.later BX)
            have KK : Hid (q1.key = q2.key) := Lib.hid (K1.out.trans hk2.symm)
            have T10 := (Keeps.of_below BX (S := fun _ => False)).heap T9 (fun h => h)
            have g0 : (we.alloc (.cells #[.int .i64 q2.f, .int .i64 q2.t, .slice q2.a q2.n q2.c] 27)).cell? ⟨wc.heap.size, 0, none⟩ = some (.int .i64 q1.f) := cell_of T10 0
            have g1 : (we.alloc (.cells #[.int .i64 q2.f, .int .i64 q2.t, .slice q2.a q2.n q2.c] 27)).cell? ⟨wc.heap.size, 1, none⟩ = some (.int .i64 q1.t) := cell_of T10 1
            have g2 : (we.alloc (.cells #[.int .i64 q2.f, .int .i64 q2.t, .slice q2.a q2.n q2.c] 27)).cell? ⟨wc.heap.size, 2, none⟩ = some (.slice q1.a q1.n q1.c) := cell_of T10 2
            have hbb : (tkB ks != tkB ks) = false := by simp
            clear hk2 hq2 hp2 kp2 T9 T10 BX f1
            simp only [Lt.agg]
            go_wp2_with fail
            refine (same_ok q1 q2 Q1e.out Q2e.out KK.out).mono ?_
            rintro e wf ⟨rfl, hb⟩
            have PF := Lib.hid (PE.out.later hb)
            clear hb
            go_wp2
            go_meet
            case rel => exact ⟨_, _, _, PF⟩
          · have t0 : (p.kind.tmod 5 == 0) = false := by rw [h5]; rfl
            have t1 : (p.kind.tmod 5 == 1) = false := by rw [h5]; rfl
            have t2 : (p.kind.tmod 5 == 2) = true := by rw [h5]; rfl
            clear h5
            by_cases h0 : ks = []
            · subst h0
              have hpl : pl = -1 := PL.out.trans (by simp [placeOf])
              clear PL
              subst hpl
              go_wp2_with fail
              refine (n_double PB.out p.i).mono ?_
              rintro e wc ⟨kp, ⟨_, rfl, v1, hp⟩ | ⟨k1, key, h1, h2, _⟩⟩
              · have PX := Lib.hid hp
                clear kp hp
                go_wp2
                go_meet
                case rel => exact ⟨_, _, _, PX⟩
              · simp at h2
            · obtain ⟨k1, hp1, hk1⟩ := placeOf_lt p.i (show 0 < ks.length from List.length_pos_iff.2 h0)
              obtain ⟨key, hkey⟩ : ∃ key, ks[k1]? = some key := ⟨_, List.getElem?_eq_getElem hk1⟩
              have hpl : pl = (k1 : Int) := PL.out.trans hp1
              have H1 := Lib.hid hp1
              have HK := Lib.hid hkey
              have hk200 : k1 < 200 := by have := PB.out.ok.1; omega
              have H0 := Lib.hid h0
              clear PL hp1 hkey h0
              subst hpl
              go_wp2_with fail
              refine (n_double PB.out p.i).mono ?_
              rintro e wc ⟨kp, ⟨h0, _⟩ | ⟨k2, key2, h1, h2, rfl, v1, hp⟩⟩
              · exact absurd h0 H0.out
              · have hkk : k2 = k1 := by have := H1.out; omega
                subst hkk
                have hkey2 : key = key2 := by have := HK.out; rw [h2] at this; exact (Option.some.inj this).symm
                subst hkey2
                obtain ⟨q, g, cr, hqk, hv', hg, hc0, hc1, hc2, hc3, hfz, hqa⟩ := r_row hp h2
                have PX := Lib.hid hp
                have QX := Lib.hid hqa
                have QK := Lib.hid hqk
                have hbb : (sendB ks q.key != sendB ks q.key) = false := by simp
                have hmx : k2 < ks.length := hk1
                rw [← hqk]
                clear kp hp h1 h2 hqa hqk hv' hg hfz
                go_wp2_with (go_at_call 17; refine (r_send PX.out q QX.out).mono ?_; rintro e wd ⟨rfl, v2, hp2, kp2⟩; have PY := Lib.hid hp2; clear hp2 kp2)
                go_meet
                case rel => exact ⟨_, _, _, Lib.hid (by have h := PY.out; rw [QK.out] at h; exact h)⟩
          · have t0 : (p.kind.tmod 5 == 0) = false := by rw [h5]; rfl
            have t1 : (p.kind.tmod 5 == 1) = false := by rw [h5]; rfl
            have t2 : (p.kind.tmod 5 == 2) = false := by rw [h5]; rfl
            have t3 : (p.kind.tmod 5 == 3) = true := by rw [h5]; rfl
            clear h5
            have QL : Hid (p.q.bs.length = p.q.n) := Lib.hid QB.out.len
            by_cases h0 : ks = []
            · subst h0
              have hpl : pl = -1 := PL.out.trans (by simp [placeOf])
              clear PL
              subst hpl
              go_wp2_with fail
              refine (n_turn PB.out p.i p.q.a p.q.n p.q.c p.q.bs QB.out.reads QL.out).mono ?_
              rintro e wc ⟨kp, ⟨_, rfl, v1, hp⟩ | ⟨k1, key, h1, h2, _⟩⟩
              · have PX := Lib.hid hp
                clear kp hp
                go_wp2
                go_meet
                case rel => exact ⟨_, _, _, PX⟩
              · simp at h2
            · obtain ⟨k1, hp1, hk1⟩ := placeOf_lt p.i (show 0 < ks.length from List.length_pos_iff.2 h0)
              obtain ⟨key, hkey⟩ : ∃ key, ks[k1]? = some key := ⟨_, List.getElem?_eq_getElem hk1⟩
              have hpl : pl = (k1 : Int) := PL.out.trans hp1
              have H1 := Lib.hid hp1
              have HK := Lib.hid hkey
              have hk200 : k1 < 200 := by have := PB.out.ok.1; omega
              have H0 := Lib.hid h0
              clear PL hp1 hkey h0
              subst hpl
              by_cases hn : 16384 < p.q.n
              · have hni : ¬ ((p.q.n : Int) ≤ 16384) := by omega
                go_wp2_with fail
                refine (n_turn PB.out p.i p.q.a p.q.n p.q.c p.q.bs QB.out.reads QL.out).mono ?_
                rintro e wc ⟨kp, ⟨_, rfl, v1, hp⟩ | ⟨k2, key2, h1, h2, h3, _⟩⟩
                · have PX := Lib.hid hp
                  clear kp hp
                  go_wp2
                  go_meet
                  case rel => exact ⟨_, _, _, PX⟩
                · have := QL.out; omega
              · have hni : (p.q.n : Int) ≤ 16384 := by omega
                obtain ⟨q, g, cr, hqk, hv', hg, hc0, hc1, hc2, hc3, hfz, hqa⟩ := r_row PB.out HK.out
                have hf3 := hfz (k1 * 3 + 2)
                obtain ⟨v2, hp2, kp2⟩ := r_set PB.out HK.out hv' p.q QB.out (by omega)
                have PS := Lib.hid (hp2.later (below_drew _))
                have QS := Lib.hid ((ArgLt.step QB.out kp2 (fun i hi => (PB.out.feet i (.inr hi)).1)).later (below_drew _))
                have BS := kp2.heap BB.out (not_foot PB.out BB.out).2
                have m1 : (wb.setCell ⟨g, k1 * 3 + 2, none⟩ (.slice p.q.a p.q.n p.q.c)).cell? ⟨wr.heap.size, 1, none⟩ = some (.int .i64 p.i) := cell_of BS 1
                have m4 : (wb.setCell ⟨g, k1 * 3 + 2, none⟩ (.slice p.q.a p.q.n p.q.c)).cell? ⟨wr.heap.size, 4, none⟩ = some (.slice p.q.a p.q.n p.q.c) := cell_of BS 4
                clear hp2 kp2 BS hqk hv' hg hfz hqa hc1 hc2
                go_wp2
                go_region
                all_goals
                  go_wp2_with fail
                  refine (n_turn PS.out p.i p.q.a p.q.n p.q.c p.q.bs QS.out.reads QL.out).mono ?_
                  rintro e wc ⟨kp, ⟨h3, rfl, v1, hp⟩ | ⟨k2, key2, h1, h2, h3, rfl, v1, hp⟩⟩
                  · exfalso
                    have := QL.out
                    rcases h3 with h | h
                    · exact H0.out h
                    · omega
                  · have hkk : k2 = k1 := by have := H1.out; omega
                    subst hkk
                    have hkey2 : key = key2 := by have := HK.out; rw [h2] at this; exact (Option.some.inj this).symm
                    subst hkey2
                    have PX := Lib.hid hp
                    clear kp hp h1 h2 h3
                    go_wp2
                    go_meet
                    case rel => exact ⟨_, _, _, PX⟩
          · have t0 : (p.kind.tmod 5 == 0) = false := by rw [h5]; rfl
            have t1 : (p.kind.tmod 5 == 1) = false := by rw [h5]; rfl
            have t2 : (p.kind.tmod 5 == 2) = false := by rw [h5]; rfl
            have t3 : (p.kind.tmod 5 == 3) = false := by rw [h5]; rfl
            clear h5
            by_cases h0 : ks = []
            · subst h0
              have hpl : pl = -1 := PL.out.trans (by simp [placeOf])
              clear PL
              subst hpl
              go_wp2_with fail
              refine (n_at PB.out p.i).mono ?_
              rintro e wc ⟨hbl, ⟨_, rfl⟩ | ⟨k1, q, h1, h2, _⟩⟩
              · have PX := Lib.hid ((PB.out.later hbl).later ((Below.refl _ wc).alloc (Nat.le_refl _) (.cells #[.int .i64 0, .int .i64 0, .slice none 0 0] 27)))
                have PY := Lib.hid (PX.out.later (below_drew _))
                clear hbl
                simp only [Lt.agg, zeroLt]
                go_wp2
                go_region
                all_goals
                  go_wp2
                  go_meet
                  case rel => exact ⟨_, _, _, PY⟩
              · simp at h2
            · obtain ⟨k1, hp1, hk1⟩ := placeOf_lt p.i (show 0 < ks.length from List.length_pos_iff.2 h0)
              have hpl : pl = (k1 : Int) := PL.out.trans hp1
              have H1 := Lib.hid hp1
              have hk200 : k1 < 200 := by have := PB.out.ok.1; omega
              have H0 := Lib.hid h0
              clear PL hp1 h0
              subst hpl
              go_wp2_with fail
              refine (n_at PB.out p.i).mono ?_
              rintro e wc ⟨hbl, ⟨h0, _⟩ | ⟨k2, q1, h1, h2, rfl, hq1⟩⟩
              · exact absurd h0 H0.out
              · have hkk : k2 = k1 := by have := H1.out; omega
                subst hkk
                have BX : Below wc.heap.size wc (wc.alloc (.cells #[.int .i64 q1.f, .int .i64 q1.t, .slice q1.a q1.n q1.c] 27)) := (Below.refl _ wc).alloc (Nat.le_refl _) _
                have PX := (PB.out.later hbl).later BX
                obtain ⟨q, g, cr, hqk, hv', hg, hc0, hc1, hc2, hc3, hfz, hqa⟩ := r_row PX h2
                have PY := Lib.hid (PX.later (below_drew _))
                have c8 : (wc.alloc (.cells #[.int .i64 q1.f, .int .i64 q1.t, .slice q1.a q1.n q1.c] 27)).cell? ⟨wc.heap.size, 0, none⟩ = some (.int .i64 q1.f) := cell_of (heap_alloc_new _ _) 0
                have c9 : (wc.alloc (.cells #[.int .i64 q1.f, .int .i64 q1.t, .slice q1.a q1.n q1.c] 27)).cell? ⟨wc.heap.size, 1, none⟩ = some (.int .i64 q1.t) := cell_of (heap_alloc_new _ _) 1
                have c10 : (wc.alloc (.cells #[.int .i64 q1.f, .int .i64 q1.t, .slice q1.a q1.n q1.c] 27)).cell? ⟨wc.heap.size, 2, none⟩ = some (.slice q1.a q1.n q1.c) := cell_of (heap_alloc_new _ _) 2
                have Q1 := Lib.hid ((hq1.later BX).later (below_drew _))
                have Q2 := Lib.hid (LtOk.later hqa (below_drew _))
                have KK : Hid (q1.key = q.key) := Lib.hid hqk.symm
                clear hbl h1 h2 hq1 BX PX hqk hv' hg hfz hqa
                simp only [Lt.agg]
                go_wp2
                have HH : Hid (Held2 w (wc.alloc (.cells #[.int .i64 q1.f, .int .i64 q1.t, .slice q1.a q1.n q1.c] 27)).drew o v ks o' v' q1 q) := Lib.hid ⟨PY.out, Q1.out, ltOk_loose Q2.out⟩
                go_region_held3 (fun w' => (w'.cell? ⟨wc.heap.size, 0, none⟩ = some (.int .i64 q1.f) ∧ w'.cell? ⟨wc.heap.size, 1, none⟩ = some (.int .i64 q1.t) ∧ w'.cell? ⟨wc.heap.size, 2, none⟩ = some (.slice q1.a q1.n q1.c)) ∧ (w'.cell? ⟨o', 0, none⟩ = some (.slice (some ⟨g, 0, none⟩) ks.length cr) ∧ w'.cell? ⟨g, k2 * 3, none⟩ = some (.int .i64 q.f) ∧ w'.cell? ⟨g, k2 * 3 + 1, none⟩ = some (.int .i64 q.t) ∧ w'.cell? ⟨g, k2 * 3 + 2, none⟩ = some (.slice q.a q.n q.c)) ∧ Hid (Held2 w w' o v ks o' v' q1 q))
                  (first | exact ⟨⟨c8, c9, c10⟩, ⟨hc0, hc1, hc2, hc3⟩, HH⟩ | (try go_split_ands; exact ⟨⟨hkp _ _ (by assumption), hkp _ _ (by assumption), hkp _ _ (by assumption)⟩, ⟨hkp _ _ (by assumption), hkp _ _ (by assumption), hkp _ _ (by assumption), hkp _ _ (by assumption)⟩, hhp⟩))
                  (first | (go_at_call 19; try go_split_ands; refine (same_ok2 (q1 := q1) (q := q) (by assumption) KK.out).mono ?_; rintro e we ⟨rfl, hkp, hhp⟩))
                all_goals
                  try simp only [List.getElem_toArray, List.getElem_cons_succ, List.getElem_cons_zero, Act.put, List.setIfInBounds_toArray, List.set_cons_zero, List.set_cons_succ]
                  go_wp2
                  go_meet
                  case rel => exact ⟨_, _, _, held_pr (by assumption)⟩
      · clear AL A1 LL hkw
        obtain ⟨w0, rfl⟩ : ∃ w0, w0 = wr := ⟨_, rfl⟩
        go_wp2_with fail
        refine (n_way P.out).mono ?_
        rintro e wy ⟨aw, cw, lw, rfl, hw, hkeys, hbl⟩
        have PW := Lib.hid (P.out.later hbl)
        have WW := Lib.hid hw
        have KW := Lib.hid hkeys
        have HL : Hid (lw.length = ks.length) := Lib.hid (by rw [← hkeys, List.length_map])
        have hk200 : ks.length ≤ 200 := P.out.ok.1
        clear hw hkeys hbl
        go_wp2
        go_loopw [16] (fun t wq => WayR w w0 o v ks o' v' aw cw lw t wq) (fun t _ => ks.length - (intOf t).toNat)
        case atStart => exact ⟨0, rfl, Nat.zero_le _, PW, WW⟩
        case round =>
          obtain ⟨j, rfl, hj, PQ, WQ⟩ := hrel
          have hjw : IntKind.i64.wrap ((j : Int) + 1) = (j : Int) + 1 := IntWalk.i64_in _ (by omega)
          by_cases hjl : j < ks.length
          · obtain ⟨q1, hq1⟩ : ∃ q1, lw[j]? = some q1 := ⟨_, List.getElem?_eq_getElem (by rw [HL.out]; exact hjl)⟩
            have hkj : ks[j]? = some q1.key := by rw [← KW.out, List.getElem?_map, hq1]; rfl
            obtain ⟨g1, cw', hvw, c8, c9, c10, hl1⟩ := way_row WQ.out hq1
            obtain ⟨q, g, cr, hqk, hv', hg, hc0, hc1, hc2, hc3, hfz, hqa⟩ := r_row PQ.out hkj
            have KK : Hid (q1.key = q.key) := Lib.hid hqk.symm
            have HH : Hid (Held3 w w0 wr.drew o v ks o' v' (.slice aw ks.length cw) lw q1 q) := Lib.hid ⟨PQ.out.later (below_drew _), hl1.later (below_drew _), ltOk_loose (LtOk.later hqa (below_drew _)), WQ.out.later (below_drew _)⟩
            rw [HL.out] at hvw
            cases hvw
            clear hq1 hkj hl1 hqk hv' hg hfz hqa
            go_wp2
            go_region_held3 (fun w' => (w'.cell? ⟨g1, j * 3, none⟩ = some (.int .i64 q1.f) ∧ w'.cell? ⟨g1, j * 3 + 1, none⟩ = some (.int .i64 q1.t) ∧ w'.cell? ⟨g1, j * 3 + 2, none⟩ = some (.slice q1.a q1.n q1.c)) ∧ (w'.cell? ⟨o', 0, none⟩ = some (.slice (some ⟨g, 0, none⟩) ks.length cr) ∧ w'.cell? ⟨g, j * 3, none⟩ = some (.int .i64 q.f) ∧ w'.cell? ⟨g, j * 3 + 1, none⟩ = some (.int .i64 q.t) ∧ w'.cell? ⟨g, j * 3 + 2, none⟩ = some (.slice q.a q.n q.c)) ∧ Hid (Held3 w w0 w' o v ks o' v' (.slice (some ⟨g1, 0, none⟩) ks.length cw) lw q1 q))
              (first | exact ⟨⟨c8, c9, c10⟩, ⟨hc0, hc1, hc2, hc3⟩, HH⟩ | (try go_split_ands; exact ⟨⟨hkp _ _ (by assumption), hkp _ _ (by assumption), hkp _ _ (by assumption)⟩, ⟨hkp _ _ (by assumption), hkp _ _ (by assumption), hkp _ _ (by assumption), hkp _ _ (by assumption)⟩, hhp⟩))
              (first | (go_at_call 19; try go_split_ands; refine (same_ok3 (q1 := q1) (q := q) (by assumption) KK.out).mono ?_; rintro e we ⟨rfl, hkp, hhp⟩))
            all_goals
              try simp only [List.getElem_toArray, List.getElem_cons_succ, List.getElem_cons_zero, Act.put, List.setIfInBounds_toArray, List.set_cons_zero, List.set_cons_succ]
              go_wp2
              go_roundw
              case rel => exact ⟨j + 1, by go_num, by omega, (held3_pr (by assumption)).1, (held3_pr (by assumption)).2⟩
              case measure => simp [intOf]; omega
          · have hjk : j = ks.length := by omega
            obtain ⟨ra, rc, _, hc0⟩ := r_len PQ.out
            have BQ : Hid (Below w.heap.size w wr) := Lib.hid PQ.out.below
            subst hjk
            go_wp2
            go_ret
            exact ⟨rfl, BQ.out⟩
end Go.Proofs.Ytalhpicnepofaaa
