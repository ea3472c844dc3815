/- The reference's Stream. -/
import Derived.Test.YtmineipjnllopaaG1
namespace Go.Proofs.Ytmineipjnllopaa
open Go.RowKit Go.Shelf
set_option linter.unusedVariables false
set_option linter.unusedSimpArgs false

theorem strL_blocks (ks ns : List Int) (c : Int) (i : Nat) : strL ks ns c (64 * (i + 1)) = strL ks ns c (64 * i) ++ blk ks ns (ctr c i) := by
  apply List.ext_getElem?
  intro j
  by_cases h1 : j < 64 * i
  · rw [List.getElem?_append_left (by rw [strL_length]; exact h1), strL_getD _ _ _ _ _ (by omega), strL_getD _ _ _ _ _ h1]
  · rw [List.getElem?_append_right (by rw [strL_length]; omega), strL_length]
    by_cases h2 : j < 64 * (i + 1)
    · rw [strL_getD _ _ _ _ _ h2]
      have hl := blk_length ks ns (ctr c i)
      unfold sb
      rw [show j / 64 = i by omega, show j % 64 = j - 64 * i by omega]
      simp [List.getD, List.getElem?_eq_getElem (show j - 64 * i < (blk ks ns (ctr c i)).length by omega)]
    · rw [List.getElem?_eq_none (by rw [strL_length]; omega), List.getElem?_eq_none (by rw [blk_length]; omega)]

theorem Own.cut {w : World} {a : Option Addr} {m n cc : Nat} {xs : List Int} (h : Own w (.slice a m cc) xs) (hn : n ≤ m) : Own w (.slice a n cc) (xs.take n) := by
  have hl := h.reads.2
  rcases h.2 with ⟨e, h0⟩ | ⟨g, cap, cur, e, hb, hg, hcap, hcm, hcs, htake⟩
  · cases e
    have h0' : n = 0 := by omega
    subst h0'
    rw [List.take_zero]
    exact Own.nil w
  · cases e
    refine ⟨by simp, .inr ⟨g, cc, cur, by simp; omega, hb, hg, by simp; omega, hcm, hcs, ?_⟩⟩
    have := congrArg (List.take n) htake
    simp only [List.take_take, ints, ← List.map_take] at this ⊢
    have e1 : min n xs.length = n := by omega
    rw [List.length_take, Nat.mul_one, e1]
    simp only [Nat.mul_one] at this
    rw [e1] at this
    exact this

theorem reads_row {w : World} {g : Nat} {t : TypeId} {ys : List Int} (h : w.heap[g]? = some (.cells (ints ys).toArray t (0, 0))) : Reads w (some ⟨g, 0, none⟩) ys :=
  ⟨fun h => (by cases h), fun x hx i hi => by
    cases hx
    rw [Addr.add_lit, Nat.zero_add, cell_of h]
    simp [ints, List.getD, List.getElem?_eq_getElem hi]⟩

def RStr (w0 : World) (ks ns : List Int) (c : Int) (n i : Nat) (v : Value) (w : World) : Prop :=
  ∃ a cc, v = .slice a (64 * i) cc ∧ Own w (.slice a (64 * i) cc) (strL ks ns c (64 * i)) ∧ Below w0.heap.size w0 w ∧ (∀ k, (Value.slice a (64 * i) cc).ownBlock = some k → w0.heap.size ≤ k) ∧ (64 * i < n + 64)

theorem rstr_start (w0 : World) (ks ns : List Int) (c : Int) (n : Nat) : RStr w0 ks ns c n 0 (.slice none 0 0) w0 :=
  ⟨none, 0, rfl, Own.nil w0, Below.refl _ _, fun k hk => by simp [Value.ownBlock] at hk, by omega⟩

def RStreamAt (w : World) (n : Nat) (xs : List Int) (e : Ending) (w' : World) : Prop :=
  ∃ a' c', e = .returned (.slice a' n c') ∧ Own w' (.slice a' n c') xs ∧ Below w.heap.size w w' ∧ ∀ k, (Value.slice a' n c').ownBlock = some k → w.heap.size ≤ k

set_option maxHeartbeats 1000000 in
set_option maxRecDepth 100000 in
theorem rstream_ok (ks ns : List Int) (c : Int) (n : Nat) (w : World) (hk : ks.length = 32) (hn : ns.length = 12) (bk : Bytes ks) (bn : Bytes ns) (hc : Word c) (hn2 : n ≤ 65536) :
    Calls Try.prog 14 #[.agg (ints ks).toArray, .agg (ints ns).toArray, .int .u32 c, .int .i64 n] w (RStreamAt w n (strL ks ns c n)) := by
  have hn0 : (0 : Int) ≤ (n : Int) := by omega
  have hn3 : (n : Int) ≤ 65536 := by omega
  have sk := Lib.hid (show (Try.prog.info? 22).map (·.size) = some (ints ks).toArray.size by rw [size22]; simp [ints, hk])
  have sn := Lib.hid (show (Try.prog.info? 29).map (·.size) = some (ints ns).toArray.size by rw [size29]; simp [ints, hn])
  have BO : Hid (∀ (i : Nat) (w : World), Calls Try.prog 11 #[.agg (ints ks).toArray, .agg (ints ns).toArray, .int .u32 (ctr c i)] w fun e w' => e = .returned (.agg (ints (blk ks ns (ctr c i))).toArray) ∧ Below w.heap.size w w') := Lib.hid (fun i w => rblock_ok ks ns (ctr c i) w hk hn bk bn (ctr_word c i))
  obtain ⟨hc0, hc1⟩ := hc
  clear hk hn bk bn
  have e0 : ∃ w0, (w.alloc (.cells (ints ks).toArray 22)).alloc (.cells (ints ns).toArray 29) = w0 := ⟨_, rfl⟩
  go_enter Try.func14, Try.ntmps14
  go_wp2
  obtain ⟨w0, e0⟩ := e0
  rw [e0]
  have R1 := Lib.hid (show w0.heap[w.heap.size]? = some (.cells (ints ks).toArray 22 (0, 0)) by rw [← e0]; exact (heap_old_at _ _ _ (by simp)).trans (heap_new_at _ _ _ rfl))
  have R2 := Lib.hid (show w0.heap[w.heap.size + 1]? = some (.cells (ints ns).toArray 29 (0, 0)) by rw [← e0]; exact heap_new_at _ _ _ (by simp))
  have KB := Lib.hid (show Below w.heap.size w w0 by rw [← e0]; exact ((Below.refl _ _).alloc (Nat.le_refl _) _).alloc (by simp) _)
  clear e0
  go_loopw [9, 10] (fun v u wr => ∃ i : Nat, u = .int .i64 i ∧ RStr w0 ks ns c n i v wr) (fun _ u _ => 1100 - (intOf u).toNat)
  case atStart => exact ⟨0, rfl, rstr_start _ _ _ _ _⟩
  case round =>
    obtain ⟨i, rfl, a, cc, rfl, own, hb, hf, hin⟩ := hrel
    have OW := Lib.hid own
    have HB := Lib.hid hb
    have HF := Lib.hid hf
    have i0 : (0 : Int) ≤ (i : Int) := by omega
    have i1 : (i : Int) ≤ 1024 := by omega
    clear own hb hf
    by_cases hlt : 64 * i < n
    · have hlt' : (i : Int) * 64 < (n : Int) := by omega
      obtain ⟨d, hcc⟩ : ∃ d, (c + (i : Int)) % 4294967296 = d := ⟨_, rfl⟩
      have ED : Hid (ctr c i = d) := Lib.hid hcc
      have k1 := Lib.hid ((HB.out.block _ (heap_lt R1.out)).trans R1.out)
      have k2 := Lib.hid ((HB.out.block _ (heap_lt R2.out)).trans R2.out)
      obtain ⟨yb, hyb⟩ : ∃ yb, blk ks ns (ctr c i) = yb := ⟨_, rfl⟩
      have BI := Lib.hid (BO.out i wr)
      rw [hyb, ED.out] at BI
      have YL : Hid ((ints yb).length = 64) := Lib.hid (by rw [← hyb, List.length_map, blk_length])
      have EY := Lib.hid hyb
      clear hyb
      go_wp2_with (first
        | (refine wpList_load_row rfl 22 _ rfl w.heap.size rfl 22 (ints ks).toArray (0, 0) _ k1.out Try.underlying22 rfl sk.out ?_)
        | (refine wpList_load_row rfl 29 _ rfl (w.heap.size + 1) rfl 29 (ints ns).toArray (0, 0) _ k2.out Try.underlying29 rfl sn.out ?_))
      refine BI.out.mono ?_
      rintro e w1 ⟨rfl, b1⟩
      have B1 := Lib.hid b1
      clear b1
      go_wp2_with (first
        | (refine wpList_store_row rfl 32 _ _ rfl w1.heap.size (ints yb) rfl rfl 32 _ (heap_new_at w1 _ _ rfl) YL.out (by rw [YL.out]; exact size32) (ints_one _) ?_; intro w2 hg2 k2'; have RD := Lib.hid (reads_row hg2); have B12 := Lib.hid (below_new B1.out k2'); have O2 : Hid (Own w2 (.slice a (64 * i) cc) (strL ks ns c (64 * i))) := Lib.hid (OW.out.keeps (Keeps.of_below B12.out (S := fun _ => False)) (fun _ _ h => h)); clear hg2 k2')
        | (refine app_law rfl _ _ rfl (.slice a (64 * i) cc) (strL ks ns c (64 * i)) rfl O2.out (some ⟨w1.heap.size, 0, none⟩) 64 64 yb rfl (fun h => by cases h) RD.out (by have := YL.out; rw [List.length_map] at this; exact this) (by rw [strL_length]; omega) ?_; intro a' n' c' w3 own3 hn3' kp3 fr3 _; have O3 := Lib.hid own3; have N3 := Lib.hid hn3'; have K3 := Lib.hid kp3; have F3 := Lib.hid fr3; clear own3 hn3' kp3 fr3))
      go_roundw
      case rel =>
        have hN : n' = 64 * (i + 1) := by have := N3.out; rw [strL_length] at this; omega
        refine ⟨i + 1, by go_num, a', c', by rw [hN], ?_, ?_, ?_, by omega⟩
        · have := O3.out
          rw [hN] at this
          rw [strL_blocks, EY.out]
          exact this
        · exact below_keeps (HB.out.trans (B12.out.mono HB.out.size)) K3.out (Nat.le_trans HB.out.size B12.out.size) (fun j hj => HF.out j hj)
        · intro k hk
          rw [← hN] at hk
          rcases F3.out k hk with h | h
          · exact HF.out k h
          · have := HB.out.size
            have := B12.out.size
            omega
      case measure => simp [intOf]; omega
    · have hge : n ≤ 64 * i := by omega
      have hge' : (n : Int) ≤ (i : Int) * 64 := by omega
      obtain ⟨a2, cc2, hv, hle, hrd, hnone, hsome⟩ := OW.out.form
      rw [strL_length] at hv hle
      cases hv
      have hcap : (n : Int) ≤ (cc : Int) := by omega
      clear hrd hsome
      cases a with
      | none =>
        have hcc0 := hnone rfl
        subst hcc0
        have hn00 : n = 0 := by omega
        subst hn00
        go_wp2
        go_ret
        exact ⟨none, 0, rfl, Own.nil _, KB.out.trans (HB.out.mono KB.out.size), fun k hk => by simp [Value.ownBlock] at hk⟩
      | some ad =>
        clear hnone
        go_wp2
        go_ret
        have hcut := OW.out.cut hge
        rw [strL_take _ _ _ _ _ hge] at hcut
        refine ⟨some ad, cc, rfl, hcut, KB.out.trans (HB.out.mono KB.out.size), fun k hk => ?_⟩
        have h1 := HF.out k hk
        have h2 := KB.out.size
        omega
end Go.Proofs.Ytmineipjnllopaa
