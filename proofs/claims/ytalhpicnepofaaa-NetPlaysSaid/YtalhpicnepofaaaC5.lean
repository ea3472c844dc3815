/- The walk of NetOwn. -/
import Derived.Test.YtalhpicnepofaaaC4
namespace Go.Proofs.Ytalhpicnepofaaa
open Go.RowKit
set_option linter.unusedVariables false
set_option linter.unusedSimpArgs false

/-- A net made since W, its letters' bytes too. -/
structure Mine (W : World) (o : Nat) (v : Value) (l : List Lt) (w : World) : Prop where
  live : Live W o v l w
  lts : ∀ q ∈ l, ∀ x, q.a = some x → 0 < q.n → W.heap.size ≤ x.block

theorem Mine.later {W w w' : World} {o : Nat} {v : Value} {l : List Lt} (h : Mine W o v l w) (b : Below w.heap.size w w') : Mine W o v l w' := ⟨h.live.later b, h.lts⟩
theorem Mine.post {W w w' : World} {o : Nat} {v : Value} {l l' : List Lt} (h : Mine W o v l w) (p : NetPost w o v l l' w') : ∃ v', Mine W o v' l' w' ∧ Below W.heap.size W w' := by
  obtain ⟨v', L⟩ := h.live.post p
  refine ⟨v', ⟨L, ?_⟩, L.below⟩
  obtain ⟨_, _, _, _, hq⟩ := p
  intro q hq1 x hx hp
  rcases hq q hq1 with e | e
  · exact h.lts q e x hx hp
  · have := e x hx hp; have := h.live.below.size; omega

theorem own_ne_row {w : World} {u v : Value} {xs : List Int} {n : Nat} {ys : List Value} (h1 : Own w v xs) (h2 : w.ownsRow 0 27 3 u n ys) (j : Nat) (hv : v.ownBlock = some j) : u.ownBlock ≠ some j := by
  intro hu
  rcases h1.2 with ⟨e, _⟩ | ⟨g, cap, cur, e, _, hg, _⟩
  · rw [e] at hv; cases hv
  · rcases h2.2 with ⟨e', _⟩ | ⟨g', cap', cur', e', _, hg', _⟩
    · rw [e'] at hu; cases hu
    · rw [e] at hv
      rw [e'] at hu
      have a1 : g = j := by simpa [Value.ownBlock] using hv
      have a2 : g' = j := by simpa [Value.ownBlock] using hu
      subst a1
      subst a2
      rw [hg] at hg'
      simp at hg'

/-- The net, behind stores elsewhere. -/
theorem own_after {w wg w5 wy wr : World} {o : Nat} {v : Value} {l : List Lt} {S : Nat → Prop} (B3 : Below w.heap.size w wg) (L5 : Mine wg o v l w5) (BY : Below w5.heap.size w5 wy) (K : Keeps wy wr S) (h1 : ∀ i, S i → w.heap.size ≤ i) (h2 : ∀ i, S i → i < wg.heap.size ∨ w5.heap.size ≤ i) : Live w o v l wr := by
  have s3 := B3.size
  have s5 := L5.live.below.size
  have sy := BY.size
  have N := L5.live.net.later BY
  have BW : Below w.heap.size w wy := (B3.trans (L5.live.below.mono s3)).trans (BY.mono (by omega))
  refine ⟨N.keeps K ?_ ?_, ⟨K.os.trans BW.os, K.tape.trans BW.tape, K.output.trans BW.output, Nat.le_trans BW.size K.size, fun j hj => (K.block j (by omega) (fun e => by have := h1 j e; omega)).trans (BW.block j hj)⟩, by have := L5.live.new; omega, fun k hk => by have := L5.live.row k hk; omega⟩
  · intro i hi e
    have hlt : wg.heap.size ≤ i ∧ i < w5.heap.size := by
      rcases hi with e | e
      · rw [e]; exact ⟨L5.live.new, heap_lt L5.live.net.cells⟩
      · exact ⟨L5.live.row i e, (World.ownsRow.lt L5.live.net.own i e).2⟩
    have := h2 i e
    omega
  · intro q hq x hx hp e
    have a1 := L5.lts q hq x hx hp
    have a2 := (L5.live.net.lts q hq).lt hx hp
    have := h2 _ e
    omega

/-- The blocks of three rows. -/
def Three (x y z : Value) : Nat → Prop := fun j => x.ownBlock = some j ∨ y.ownBlock = some j ∨ z.ownBlock = some j
def OwnR (wy : World) (n : Nat) (x y z : Value) (i : Value) (wr : World) : Prop :=
  ∃ k : Nat, i = .int .i64 k ∧ k ≤ n ∧ ∃ xs ys zs, Own wr x xs ∧ Own wr y ys ∧ Own wr z zs ∧ Keeps wy wr (Three x y z)

theorem own3_round {wy wr : World} {n c1 c2 c3 k g1 g2 g3 : Nat} {xs ys zs : List Int} {z1 z2 z3 : Int} (h12 : g1 ≠ g2) (h13 : g1 ≠ g3) (h23 : g2 ≠ g3)
    (h1 : Own wr (.slice (some ⟨g1, 0, none⟩) n c1) xs) (h2 : Own wr (.slice (some ⟨g2, 0, none⟩) n c2) ys) (h3 : Own wr (.slice (some ⟨g3, 0, none⟩) n c3) zs) (hk : k < n)
    (K : Keeps wy wr (Three (.slice (some ⟨g1, 0, none⟩) n c1) (.slice (some ⟨g2, 0, none⟩) n c2) (.slice (some ⟨g3, 0, none⟩) n c3))) :
    OwnR wy n (.slice (some ⟨g1, 0, none⟩) n c1) (.slice (some ⟨g2, 0, none⟩) n c2) (.slice (some ⟨g3, 0, none⟩) n c3) (.int .i64 ((k : Int) + 1)) (((wr.setCell ⟨g1, k, none⟩ (.int .u8 z1)).setCell ⟨g2, k, none⟩ (.int .u8 z2)).setCell ⟨g3, k, none⟩ (.int .u8 z3)) := by
  have kp : ∀ {w : World} {g i : Nat} {u : Value} {g' m c : Nat} {vs : List Int}, g' ≠ g → Own w (.slice (some ⟨g', 0, none⟩) m c) vs → Own (w.setCell ⟨g, i, none⟩ u) (.slice (some ⟨g', 0, none⟩) m c) vs := by
    intro w g i u g' m c vs hne h
    refine h.keeps (Keeps.setCell _ _ _ (S := fun j => j = g) rfl) ?_
    intro j hj e
    simp [Value.ownBlock] at hj
    omega
  refine ⟨k + 1, rfl, hk, xs.set k z1, ys.set k z2, zs.set k z3, kp h13 (kp h12 (h1.store hk z1)), kp h23 ((kp (Ne.symm h12) h2).store hk z2), (kp (Ne.symm h23) (kp (Ne.symm h13) h3)).store hk z3, ?_⟩
  refine ((K.trans (Keeps.setCell _ _ _ (S := fun j => j = g1) rfl) ?_).trans (Keeps.setCell _ _ _ (S := fun j => j = g2) rfl) ?_).trans (Keeps.setCell _ _ _ (S := fun j => j = g3) rfl) ?_
  · intro i _ e; left; simp [Value.ownBlock, e]
  · intro i _ e; right; left; simp [Value.ownBlock, e]
  · intro i _ e; right; right; simp [Value.ownBlock, e]

theorem own_empty (w : World) : Own (w.alloc (.cells #[] 5)) (.slice (some ⟨w.heap.size, 0, none⟩) 0 0) [] :=
  ⟨rfl, .inr ⟨w.heap.size, 0, #[], rfl, Nat.zero_le _, heap_alloc_new w _, Nat.le_refl _, Nat.zero_le _, rfl, rfl⟩⟩

set_option maxRecDepth 100000 in
set_option maxHeartbeats 4000000 in
theorem netOwn_walk (f t : Int) (a : Option Addr) (n c : Nat) (bs : List Int) (w : World) (hr : Reads w a bs) (hl : bs.length = n) (hc : a = none → c = 0) (hn : n ≤ 500) :
    Calls Try.prog 5 #[.agg #[.int .i64 f, .int .i64 t, .slice a n c]] w fun e w' => e = .returned (.bool true) ∧ Below w.heap.size w w' := by
  have R := Lib.hid hr
  have L := Lib.hid hl
  have HC := Lib.hid hc
  clear hr hl hc
  have hnn : ¬ (500 : Int) < n := by omega
  have BA : Hid (Below w.heap.size w (w.alloc (.cells #[.int .i64 f, .int .i64 t, .slice a n c] 27))) := Lib.hid ((Below.refl _ w).alloc (Nat.le_refl _) _)
  go_enter Try.func5, Try.ntmps5
  go_wp2_with fail
  refine (awake_ok _).mono ?_
  rintro e w1 ⟨rfl, b1⟩
  have hA := b1.block w.heap.size (by simp)
  rw [heap_alloc_new] at hA
  have B1 : Hid (Below w.heap.size w w1) := Lib.hid (BA.out.trans (b1.mono BA.out.size))
  have x2 : w1.cell? ⟨w.heap.size, 2, none⟩ = some (.slice a n c) := cell_of hA 2
  have R1 := Lib.hid (R.out.keeps (Keeps.of_below B1.out (S := fun _ => False)) (fun _ _ h => h))
  have s1 := str_ok (c := c) R1.out L.out
  have BB : Hid (Below w1.heap.size w1 (w1.alloc (.cells #[] 5))) := Lib.hid ((Below.refl _ w1).alloc (Nat.le_refl _) _)
  have x3 : (w1.alloc (.cells #[] 5)).cell? ⟨w.heap.size, 2, none⟩ = some (.slice a n c) := (cell_of ((Keeps.of_below BB.out (S := fun _ => False)).heap hA (fun h => h)) 2).trans rfl
  have R2 := Lib.hid (R1.out.keeps (Keeps.of_below BB.out (S := fun _ => False)) (fun _ _ h => h))
  have E2 := Lib.hid (own_empty w1)
  clear b1 hA
  go_wp2_with (at_builtin; refine app_law rfl _ _ rfl _ [] rfl E2.out a n c bs rfl HC.out R2.out L.out (by simp; omega) ?_)
  intro ag ng cg w2 hown hng hK hF hnil
  obtain rfl : n = ng := by simpa using hng.symm
  have S1 := B1.out.size
  have KB : Below w1.heap.size w1 w2 := BB.out.trans (hK.under (by simp) (fun i hi => by simp [Row, Value.ownBlock] at hi; omega))
  have B2 : Hid (Below w.heap.size w w2) := Lib.hid (B1.out.trans (KB.mono S1))
  have FG : ∀ j, (Value.slice ag n cg).ownBlock = some j → w1.heap.size ≤ j := fun j hj => by
    rcases hF j hj with e | e
    · simp [Value.ownBlock] at e; omega
    · simp at e; omega
  -- the world with the given letter: wg
  obtain ⟨wg, hwg⟩ : ∃ wg, wg = w2.alloc (.cells #[.int .i64 0, .int .i64 0, .slice ag n cg] 27) := ⟨_, rfl⟩
  have HWG := Lib.hid hwg
  have GB : Hid (wg.heap[w2.heap.size]? = some (.cells #[.int .i64 0, .int .i64 0, .slice ag n cg] 27)) := Lib.hid (by rw [hwg]; exact heap_alloc_new _ _)
  have GO : Hid (Own wg (.slice ag n cg) bs) := Lib.hid (by rw [hwg]; exact hown.keeps (Keeps.alloc _ _ (fun _ => False)) (fun _ _ h => h))
  have GF : Hid (∀ j, (Value.slice ag n cg).ownBlock = some j → w1.heap.size ≤ j) := Lib.hid FG
  have B3 : Hid (Below w.heap.size w wg) := Lib.hid (by rw [hwg]; exact B2.out.alloc B2.out.size _)
  have G2 : Hid (w2.heap.size < wg.heap.size) := Lib.hid (by rw [hwg]; simp)
  have W12 : Hid (w1.heap.size ≤ w2.heap.size) := Lib.hid KB.size
  have GL : Hid (∀ j, (Value.slice ag n cg).ownBlock = some j → j < w2.heap.size) := Lib.hid (fun j hj => hown.lt hj)
  clear hown hng hK hF hnil KB FG S1 x2 x3 s1
  go_wp2_with fail
  rw [← HWG.out]
  clear hwg HWG
  refine (new_ok wg).mono ?_
  rintro e w3 ⟨o, rfl, h1, h2, h3⟩
  have L3 : Hid (Mine wg o (.slice none 0 0) [] w3) := Lib.hid ⟨Live.made h2 h1 (Below.refl _ _) h3, fun q hq => by cases hq⟩
  have B34 : Hid (Below wg.heap.size wg w3) := Lib.hid h3
  clear h1 h2 h3
  have g3 := Lib.hid ((Keeps.of_below B34.out (S := fun _ => False)).heap GB.out (fun h => h))
  have g30 := cell_of g3.out 0
  have g31 := cell_of g3.out 1
  have g32 := cell_of g3.out 2
  have GO3 := Lib.hid (GO.out.keeps (Keeps.of_below B34.out (S := fun _ => False)) (fun _ _ h => h))
  obtain ⟨v3, hv3⟩ : ∃ v, v = Value.slice none 0 0 := ⟨_, rfl⟩
  have Q3 : Hid (LtOk w3 ⟨0, 0, ag, n, cg, bs⟩ (Foot o (.slice none 0 0))) := Lib.hid (by
    obtain ⟨hr, hlen⟩ := GO3.out.reads
    have hnone : ag = none → cg = 0 := by obtain ⟨_, _, e, _, _, h, _⟩ := GO3.out.form; cases e; exact h
    refine ⟨hr, hlen, hnone, fun x hx hp e => ?_⟩
    have hx' : ag = some x := hx
    subst hx'
    have h1 := GO.out.lt (k := x.block) rfl
    have h2 := L3.out.live.new
    rcases e with e | e
    · omega
    · simp [Value.ownBlock] at e)
  go_wp2_with fail
  refine (send_ok L3.out.live.net ⟨0, 0, ag, n, cg, bs⟩ Q3.out (by simp) (by show n ≤ _; omega)).mono ?_
  intro e w4 he
  unfold SendPost at he
  rw [if_neg (by show ¬ (_ ∨ 16384 < n); simp; omega)] at he
  obtain ⟨rfl, q1, e1, e2, e3, hn4⟩ := he
  obtain ⟨v4, l4, b4⟩ := L3.out.post hn4
  have L4 := Lib.hid l4
  have B4 := Lib.hid b4
  have E3 : Hid (q1.bs = bs) := Lib.hid e3
  clear hn4 l4 b4 e1 e2 e3 g30 g31 g32
  have N4 : Hid (q1.n = n) := Lib.hid (by have := (L4.out.live.net.lts q1 (by simp)).len; rw [E3.out, L.out] at this; exact this.symm)
  go_wp2_with fail
  refine (double_ok L4.out.live.net 0 (by simp) (fun q hq => by simp at hq; rw [hq, N4.out]; omega)).mono ?_
  rintro e w5 (⟨h0, _⟩ | ⟨k, q, hp, hq, ⟨hc, _⟩ | ⟨hc, rfl, q2, e1, e2, e3, hn5⟩⟩)
  · simp at h0
  · exfalso
    have hk : k = 0 := by simpa [placeOf] using hp.symm
    subst hk
    simp at hq
    subst hq
    have := N4.out
    simp at hc
    omega
  · have hk : k = 0 := by simpa [placeOf] using hp.symm
    subst hk
    simp at hq
    subst hq
    obtain ⟨v5, l5, b5⟩ := L4.out.post hn5
    have L5 := Lib.hid l5
    have B5 := Lib.hid b5
    have E5 : Hid (q2.bs = bs) := Lib.hid (by rw [e3, E3.out])
    clear hn5 l5 b5 e1 e2 e3 hc hp
    have N5 : Hid (∀ q ∈ [q1] ++ [q2], q.n ≤ 140737488355328) := Lib.hid (by
      intro q hq
      have := (L5.out.live.net.lts q hq).len
      simp at hq
      rcases hq with e | e <;> subst e
      · rw [E3.out, L.out] at this; omega
      · rw [E5.out, L.out] at this; omega)
    go_wp2_with fail
    refine (at_ok L5.out.live.net 0 (by simp) N5.out).mono ?_
    rintro e w6 ⟨hbl, ⟨h0, _⟩ | ⟨k, q, aa, na, ca, hp, hq, rfl, ho, hf⟩⟩
    · simp at h0
    · have hk : k = 0 := by simpa [placeOf] using hp.symm
      subst hk
      simp at hq
      subst hq
      rw [E3.out] at ho
      obtain rfl : n = na := by have := ho.reads.2; rw [L.out] at this; exact this
      have B6 : Hid (Below w5.heap.size w5 w6) := Lib.hid hbl
      have AO := Lib.hid ho
      have AF : Hid (∀ j, (Value.slice aa n ca).ownBlock = some j → w5.heap.size ≤ j ∧ j < w6.heap.size) := Lib.hid (fun j hj => ⟨hf j hj, ho.lt hj⟩)
      obtain ⟨wa, hwa⟩ : ∃ wa, wa = w6.alloc (.cells #[.int .i64 q1.f, .int .i64 q1.t, .slice aa n ca] 27) := ⟨_, rfl⟩
      have HWA := Lib.hid hwa
      have AB : Hid (wa.heap[w6.heap.size]? = some (.cells #[.int .i64 q1.f, .int .i64 q1.t, .slice aa n ca] 27)) := Lib.hid (by rw [hwa]; exact heap_alloc_new _ _)
      have AO2 : Hid (Own wa (.slice aa n ca) bs) := Lib.hid (by rw [hwa]; exact ho.keeps (Keeps.alloc _ _ (fun _ => False)) (fun _ _ h => h))
      have B5A : Hid (Below w5.heap.size w5 wa) := Lib.hid (by rw [hwa]; exact hbl.alloc hbl.size _)
      have A6 : Hid (w6.heap.size < wa.heap.size) := Lib.hid (by rw [hwa]; simp)
      have LA := Lib.hid (L5.out.later B5A.out)
      clear hbl ho hf hp
      simp only [Lt.agg]
      go_wp2_with fail
      rw [← HWA.out]
      clear hwa HWA
      refine (way_ok LA.out.live.net (by simp) N5.out).mono ?_
      rintro e wy ⟨aw, nw, cw, lw, rfl, hnw, hway, hkeys, hbl⟩
      obtain rfl : 2 = nw := by simpa using hnw.symm
      obtain ⟨p1, p2, rfl⟩ : ∃ p1 p2, lw = [p1, p2] := by
        have := congrArg List.length hkeys
        simp at this
        match lw, this with
        | [p1, p2], _ => exact ⟨p1, p2, rfl⟩
      have P2 : p2.bs = bs := by
        have h := hkeys
        simp [Lt.key] at h
        rw [h.2.2.2, E5.out]
      have Y := Lib.hid hway
      have BY : Hid (Below wa.heap.size wa wy) := Lib.hid hbl
      obtain ⟨gw, cw', hvw, _, _, _, pc, _⟩ := row_cells hway.own (k := 1) (q := p2) rfl
      have PC := Lib.hid pc
      obtain ⟨hmy, hmz⟩ := hway.mine p2 (by simp)
      rw [P2] at hmy
      obtain ⟨fp, tp, ap, np, cp, bp⟩ := p2
      obtain rfl : n = np := by have := hmy.reads.2; rw [L.out] at this; exact this
      have hnew := hway.new
      rw [hvw] at hmz hnew
      cases hvw
      have PO := Lib.hid hmy
      have PF : Hid (∀ j, (Value.slice ap n cp).ownBlock = some j → wa.heap.size ≤ j ∧ gw ≠ j) := Lib.hid (fun j hj => ⟨(hmz j hj).1, fun e => (hmz j hj).2 (by rw [e]; rfl)⟩)
      have GW : Hid (wa.heap.size ≤ gw) := Lib.hid (hnew gw rfl)
      have GWL : Hid (gw < wy.heap.size) := Lib.hid (World.ownsRow.lt hway.own gw rfl).2
      -- what stands at wy
      have B5Y : Hid (Below w5.heap.size w5 wy) := Lib.hid (B5A.out.trans (BY.out.mono B5A.out.size))
      have BGY : Hid (Below wg.heap.size wg wy) := Lib.hid (B5.out.trans (B5Y.out.mono B5.out.size))
      have GBY := Lib.hid ((Keeps.of_below BGY.out (S := fun _ => False)).heap GB.out (fun h => h))
      have GOY := Lib.hid (GO.out.keeps (Keeps.of_below BGY.out (S := fun _ => False)) (fun _ _ h => h))
      have ABY := Lib.hid ((Keeps.of_below BY.out (S := fun _ => False)).heap AB.out (fun h => h))
      have AOY := Lib.hid (AO2.out.keeps (Keeps.of_below BY.out (S := fun _ => False)) (fun _ _ h => h))
      clear hnw hway hkeys hbl hmy hmz hnew pc P2 
      go_wp2
      go_loopw [10] (fun i wr => OwnR wy n (.slice ag n cg) (.slice aa n ca) (.slice ap n cp) i wr) (fun i _ => n - (intOf i).toNat)
      case atStart => exact ⟨0, rfl, Nat.zero_le _, _, _, _, GOY.out, AOY.out, PO.out, Keeps.refl _ _⟩
      case round =>
        obtain ⟨k, rfl, hk, xs, ys, zs, hx, hy, hz, hK⟩ := hrel
        have X := Lib.hid hx
        have YY := Lib.hid hy
        have Z := Lib.hid hz
        have K := Lib.hid hK
        clear hx hy hz hK
        have hkw : IntKind.i64.wrap ((k : Int) + 1) = (k : Int) + 1 := IntWalk.i64_in _ (by omega)
        have o1 := W12.out
        have o2 := G2.out
        have o3 := B5.out.size
        have o4 := A6.out
        have o5 := B6.out.size
        have nG : ¬ Three (.slice ag n cg) (.slice aa n ca) (.slice ap n cp) w2.heap.size := by
          rintro (e | e | e)
          · have := GL.out _ e; omega
          · have := (AF.out _ e).1; omega
          · have := (PF.out _ e).1; omega
        have gK := K.out.heap GBY.out nG
        have x0 : wr.cell? ⟨w2.heap.size, 2, none⟩ = some (.slice ag n cg) := cell_of gK 2
        clear gK nG
        by_cases hlt : k < n
        · have nA : ¬ Three (.slice ag n cg) (.slice aa n ca) (.slice ap n cp) w6.heap.size := by
            rintro (e | e | e)
            · have := GL.out _ e; omega
            · have := (AF.out _ e).2; omega
            · have := (PF.out _ e).1; omega
          have nW : ¬ Three (.slice ag n cg) (.slice aa n ca) (.slice ap n cp) gw := by
            have h0 := GW.out
            rintro (e | e | e)
            · have := GL.out _ e; omega
            · have := (AF.out _ e).2; omega
            · exact (PF.out _ e).2 rfl
          have y0 : wr.cell? ⟨w6.heap.size, 2, none⟩ = some (.slice aa n ca) := cell_of (K.out.heap ABY.out nA) 2
          have z0 : wr.cell? ⟨gw, 5, none⟩ = some (.slice ap n cp) := K.out.cell_some PC.out nW
          obtain ⟨gx, rfl, _⟩ := GOY.out.head (by omega)
          obtain ⟨gy, rfl, _⟩ := AOY.out.head (by omega)
          obtain ⟨gz, rfl, _⟩ := Own.head (n := n) (a := ap) (c := cp) PO.out (by omega)
          have e1 := GL.out gx rfl
          have e2 := AF.out gy rfl
          have e3 := PF.out gz rfl
          have h0 := GW.out
          have nxy : gx ≠ gy := by omega
          have nxz : gx ≠ gz := by omega
          have nyz : gy ≠ gz := by omega
          have y0' : ∀ z, (wr.setCell ⟨gx, k, none⟩ z).cell? ⟨w6.heap.size, 2, none⟩ = some (.slice (some ⟨gy, 0, none⟩) n ca) := fun z =>
            (World.cell?_of_block (a := ⟨w6.heap.size, 2, none⟩) (heap_setCell_other (show w6.heap.size ≠ gx by omega))).trans y0
          have y1 : ∀ z, (wr.setCell ⟨gx, k, none⟩ z).cell? ⟨gy, k, none⟩ = some (.int .u8 (ys.getD k 0)) := fun z =>
            (World.cell?_of_block (a := ⟨gy, k, none⟩) (heap_setCell_other (show gy ≠ gx by omega))).trans (YY.out.cell hlt)
          have z0' : ∀ z z', ((wr.setCell ⟨gx, k, none⟩ z).setCell ⟨gy, k, none⟩ z').cell? ⟨gw, 5, none⟩ = some (.slice (some ⟨gz, 0, none⟩) n cp) := fun z z' =>
            (World.cell?_of_block (a := ⟨gw, 5, none⟩) (heap_setCell_other (show gw ≠ gy by omega))).trans ((World.cell?_of_block (a := ⟨gw, 5, none⟩) (heap_setCell_other (show gw ≠ gx by omega))).trans z0)
          have z1 : ∀ z z', ((wr.setCell ⟨gx, k, none⟩ z).setCell ⟨gy, k, none⟩ z').cell? ⟨gz, k, none⟩ = some (.int .u8 (zs.getD k 0)) := fun z z' =>
            (World.cell?_of_block (a := ⟨gz, k, none⟩) (heap_setCell_other (show gz ≠ gy by omega))).trans ((World.cell?_of_block (a := ⟨gz, k, none⟩) (heap_setCell_other (show gz ≠ gx by omega))).trans (Own.cell Z.out hlt))
          have x1 := X.out.cell hlt
          have fx := X.out.free k
          have fy := YY.out.free k
          have fz := Own.free Z.out k
          have NXY := Lib.hid nxy
          have NXZ := Lib.hid nxz
          have NYZ := Lib.hid nyz
          clear nA nW y0 z0 e1 e2 e3 h0 nxy nxz nyz o1 o2 o3 o4 o5
          go_wp2
          go_roundw
          case rel => exact own3_round NXY.out NXZ.out NYZ.out X.out YY.out Z.out hlt K.out
          case measure => simp [intOf]; omega
        · obtain rfl : k = n := by omega
          have HS1 : ∀ i, Three (.slice ag k cg) (.slice aa k ca) (.slice ap k cp) i → w.heap.size ≤ i := by
            have q1 := B1.out.size
            have q2 := B2.out.size
            rintro i (e | e | e)
            · have := GF.out _ e; omega
            · have := (AF.out _ e).1; omega
            · have := (PF.out _ e).1; omega
          have HS2 : ∀ i, Three (.slice ag k cg) (.slice aa k ca) (.slice ap k cp) i → i < wg.heap.size ∨ w5.heap.size ≤ i := by
            rintro i (e | e | e)
            · have := GL.out _ e; omega
            · have := (AF.out _ e).1; omega
            · have := (PF.out _ e).1; omega
          have LR := Lib.hid (own_after B3.out L5.out B5Y.out K.out HS1 HS2)
          clear HS1 HS2 o1 o2 o3 o4 o5
          go_wp2_with fail
          refine (take_ok LR.out.net 0 (by simp) N5.out).mono ?_
          rintro e w8 (⟨h0, _⟩ | ⟨j, q, a8, n8, c8, hp, hq, rfl, ho, hf, hn⟩)
          · simp at h0
          · have hj : j = 0 := by simpa [placeOf] using hp.symm
            subst hj
            simp at hq
            subst hq
            rw [E3.out] at ho
            obtain ⟨v8, l8⟩ := LR.out.post hn
            simp at l8
            obtain ⟨wb, hwb⟩ : ∃ wb, wb = w8.alloc (.cells #[.int .i64 q1.f, .int .i64 q1.t, .slice a8 n8 c8] 27) := ⟨_, rfl⟩
            have HWB := Lib.hid hwb
            have BB8 : Below w8.heap.size w8 wb := by rw [hwb]; exact (Below.refl _ w8).alloc (Nat.le_refl _) _
            have BH : Hid (wb.heap[w8.heap.size]? = some (.cells #[.int .i64 q1.f, .int .i64 q1.t, .slice a8 n8 c8] 27)) := Lib.hid (by rw [hwb]; exact heap_alloc_new _ _)
            have BO : Hid (Own wb (.slice a8 n8 c8) bs) := Lib.hid (ho.keeps (Keeps.of_below BB8 (S := fun _ => False)) (fun _ _ h => h))
            have LB := Lib.hid (l8.later BB8)
            have LB0 : Hid (o < w8.heap.size ∧ ∀ j, v8.ownBlock = some j → j < w8.heap.size) := Lib.hid ⟨heap_lt l8.net.cells, fun j hj => (World.ownsRow.lt l8.net.own j hj).2⟩
            have OF : Hid (∀ j, (Value.slice a8 n8 c8).ownBlock = some j → j ≠ o) := Lib.hid (fun j hj e => by
              have a1 := hf j hj
              have a2 := heap_lt LR.out.net.cells
              omega)
            clear hp hn ho hf l8 BB8 x0
            simp only [Lt.agg]
            go_wp2_with fail
            rw [← HWB.out]
            clear hwb HWB
            refine (take_ok LB.out.net 0 (by simp) (fun q hq => N5.out q (by simp at hq; simp [hq]))).mono ?_
            rintro e w9 (⟨h0, _⟩ | ⟨j, q, a9, n9, c9, hp, hq, rfl, ho, hf, hn⟩)
            · simp at h0
            · have hj : j = 0 := by simpa [placeOf] using hp.symm
              subst hj
              simp at hq
              subst hq
              rw [E5.out] at ho
              have KN : Keeps wb w9 (Foot o v8) := by obtain ⟨_, _, k, _, _⟩ := hn; exact k
              have BH9 := KN.heap BH.out (by
                have := LB0.out.1
                rintro (e | e)
                · omega
                · have := LB0.out.2 _ e; omega)
              have BO9 := BO.out.keeps KN (by
                rintro i hi (e | e)
                · exact OF.out i hi e
                · exact own_ne_row BO.out LB.out.net.own i hi e)
              obtain ⟨v9, l9⟩ := LB.out.post hn
              simp at l9
              have KA := Keeps.alloc w9 (.cells #[.int .i64 q2.f, .int .i64 q2.t, .slice a9 n9 c9] 27) (fun _ => False)
              have BA9 : Below w9.heap.size w9 (w9.alloc (.cells #[.int .i64 q2.f, .int .i64 q2.t, .slice a9 n9 c9] 27)) := (Below.refl _ w9).alloc (Nat.le_refl _) _
              have LF := Lib.hid (l9.later BA9)
              have b9 : (w9.alloc (.cells #[.int .i64 q2.f, .int .i64 q2.t, .slice a9 n9 c9] 27)).cell? ⟨w8.heap.size, 2, none⟩ = some (.slice a8 n8 c8) := cell_of (KA.heap BH9 (fun h => h)) 2
              have t8 := BO9.keeps KA (fun _ _ h => h)
              have t9 := ho.keeps KA (fun _ _ h => h)
              have s8 := str_ok (c := c8) t8.reads.1 t8.reads.2
              have s9 := str_ok (c := c9) t9.reads.1 t9.reads.2
              clear hp hn ho hf l9 BA9 KA t8 t9 KN BH9 BO9
              simp only [Lt.agg]
              go_wp2_with (go_at_call 11; refine (count_ok LF.out.net).mono ?_; rintro e w10 ⟨rfl, rfl⟩)
              go_ret
              exact ⟨rfl, LF.out.below⟩
end Go.Proofs.Ytalhpicnepofaaa
