/- The blocks' iterator: it hands on block after block, till a round says 'no more'. -/
import Derived.Test.YtmineipjnllopaaE2
import Derived.Deep.LoopGhost
namespace Go.Proofs.Ytmineipjnllopaa
open Go.RowKit
set_option linter.unusedVariables false
attribute [local go_sem] Oper.semAt_some

/-- What the iterator reads. -/
structure IterAt (W : World) (ks ns : List Int) (Bk Bn Bc : Nat) (z : Int) : Prop where
  key : BytesAt W 23 Bk ks
  nonce : BytesAt W 29 Bn ns
  count : W.heap[Bc]? = some (.cells #[.int .u32 z] 24 (0, 0))

set_option maxHeartbeats 4000000 in
set_option maxRecDepth 100000 in
theorem iter_ok (ks ns : List Int) (c : Int) (hk : ks.length = 32) (hn : ns.length = 12) (bk : Bytes ks) (bn : Bytes ns) (n l N Bk Bn Bc : Nat) (J JB : Nat → World → Prop) (Jx : World → Prop)
    (h1 : ∀ i W, J i W → IterAt W ks ns Bk Bn Bc (ctr c i))
    (h2 : ∀ i W W', J i W → Below W.heap.size W W' → J i W')
    (hY : ∀ i W, J i W → YieldAt Fence.wide (n - 1) Try.prog l #[.agg (ints (blk ks ns (ctr c i))).toArray] W fun e W' => (e = .returned (.bool true) ∧ JB i W') ∨ (e = .returned (.bool false) ∧ Jx W'))
    (hB : ∀ i W, JB i W → i < N ∧ W.heap[Bc]? = some (.cells #[.int .u32 (ctr c i)] 24 (0, 0)) ∧ J (i + 1) (W.setCell ⟨Bc, 0, none⟩ (.int .u32 (ctr c (i + 1)))))
    (W : World) (h0 : J 0 W) :
    CallsIn Fence.wide n Try.prog 24 #[.func (.yield l) #[] #[], .pointer (some ⟨Bk, 0, none⟩), .pointer (some ⟨Bn, 0, none⟩), .pointer (some ⟨Bc, 0, none⟩)] W fun e W' => (∃ v, e = .returned v) ∧ Jx W' := by
  have H1 := Lib.hid h1
  have H2 := Lib.hid h2
  have HY := Lib.hid hY
  have HB := Lib.hid hB
  have H0 := Lib.hid h0
  have BO : Hid (∀ (i : Nat) (w : World), Calls Try.prog 10 #[.agg (ints ks).toArray, .agg (ints ns).toArray, .int .u32 (ctr c i)] w fun e w' => e = .returned (.agg (ints (blk ks ns (ctr c i))).toArray) ∧ Below w.heap.size w w') := Lib.hid (fun i w => block_ok ks ns (ctr c i) w hk hn bk bn (ctr_word c i))
  have sk : Hid ((Try.prog.info? 23).map (·.size) = some (ints ks).toArray.size) := Lib.hid (by rw [size23]; simp [ints, hk])
  have sn : Hid ((Try.prog.info? 29).map (·.size) = some (ints ns).toArray.size) := Lib.hid (by rw [size29]; simp [ints, hn])
  clear h1 h2 hY hB h0 hk hn bk bn
  refine callsIn_of_wp Try.func24 rfl trivial ?_ rfl
  simp only [Try.ntmps24, List.size_toArray, List.length_cons, List.length_nil, Nat.reduceAdd, Nat.reduceSub, Array.replicate_succ, Array.replicate_zero, List.push_toArray, List.append_toArray, List.nil_append, List.cons_append]
  gi_wp2
  gi_loopw [5] (fun u wr => ∃ i : Nat, i ≤ N ∧ J i wr) (fun u wr => leastOf (fun m => ∃ i : Nat, i + m = N ∧ J i wr))
  case atStart => exact ⟨0, Nat.zero_le _, H0.out⟩
  case round =>
    obtain ⟨i0, hi0, hJ0⟩ := hrel
    obtain ⟨hm1, hm2⟩ := leastOf_spec (p := fun m => ∃ i : Nat, i + m = N ∧ J i wr) ⟨N - i0, i0, by omega, hJ0⟩
    obtain ⟨M, hM⟩ : ∃ M, leastOf (fun m => ∃ i : Nat, i + m = N ∧ J i wr) = M := ⟨_, rfl⟩
    rw [hM] at hm1
    obtain ⟨i, hiM, hJ⟩ := hm1
    have IT := Lib.hid (H1.out i wr hJ)
    have HJ := Lib.hid hJ
    have c0 : wr.cell? ⟨Bc, 0, none⟩ = some (.int .u32 (ctr c i)) := cell_of IT.out.count 0
    have HM := Lib.hid hM
    clear hi0 hJ0 hm2 hJ hM
    gi_wp2_with (first
      | (refine wpListIn_load_row rfl 23 _ rfl Bk rfl 23 (ints ks).toArray (0, 0) _ IT.out.key Try.underlying23 rfl sk.out ?_)
      | (refine wpListIn_load_row rfl 29 _ rfl Bn rfl 29 (ints ns).toArray (0, 0) _ IT.out.nonce Try.underlying29 rfl sn.out ?_))
    refine ⟨trivial, (fun hs => nomatch hs), (callsIn_wide.2 (BO.out i wr)).mono ?_⟩
    rintro e w1 ⟨rfl, hb1⟩
    obtain ⟨fn, tmps, assign, body, hy, hR⟩ := HY.out i w1 (H2.out i wr w1 HJ.out hb1)
    have HR := Lib.hid hR
    clear hR hb1 c0
    gi_wp2
    refine ⟨(fun hs => nomatch hs), HR.out.mono ?_⟩
    rintro e W3 (⟨rfl, hb⟩ | ⟨rfl, hx⟩)
    · obtain ⟨hiN, hc3, hJ3⟩ := HB.out i W3 hb
      have c3 : W3.cell? ⟨Bc, 0, none⟩ = some (.int .u32 (ctr c i)) := cell_of hc3 0
      have f3 := frozen_of hc3 0
      have cs := ctr_succ c i
      have HJ3 := Lib.hid hJ3
      clear hc3 hJ3 hb HR hy
      gi_wp2
      go_roundw
      case rel => exact ⟨i + 1, by omega, HJ3.out⟩
      case measure =>
        rw [HM.out]
        have := (leastOf_spec (p := fun m => ∃ j : Nat, j + m = N ∧ J j (W3.setCell ⟨Bc, 0, none⟩ (.int .u32 (ctr c (i + 1))))) ⟨M - 1, i + 1, by omega, HJ3.out⟩).2 (M - 1) ⟨i + 1, by omega, HJ3.out⟩
        omega
    · have HX := Lib.hid hx
      clear hx HR hy
      gi_wp2
      go_end0
      exact ⟨⟨_, rfl⟩, HX.out⟩
end Go.Proofs.Ytmineipjnllopaa
