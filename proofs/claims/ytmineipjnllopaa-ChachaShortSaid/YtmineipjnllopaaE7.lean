/- Xor. -/
import Derived.Test.YtmineipjnllopaaE8
namespace Go.Proofs.Ytmineipjnllopaa
open Go.RowKit Go.Shelf
set_option linter.unusedVariables false
set_option linter.unusedSimpArgs false
attribute [local go_sem] Oper.semAt_some

def XorAt (w : World) (xs : List Int) (e : Ending) (w' : World) : Prop :=
  ∃ a' n' c', e = .returned (.slice a' n' c') ∧ Own w' (.slice a' n' c') xs ∧ Below w.heap.size w w' ∧ ∀ k, (Value.slice a' n' c').ownBlock = some k → w.heap.size ≤ k

set_option maxHeartbeats 4000000 in
set_option maxRecDepth 100000 in
theorem xor_pos (ks ns bs : List Int) (c : Int) (ad : Addr) (n cp : Nat) (w : World) (hk : ks.length = 32) (hn : ns.length = 12) (bk : Bytes ks) (bn : Bytes ns) (hc : Word c)
    (hr : Reads w (some ad) bs) (hl : bs.length = n) (hb : Bytes bs) (hn1 : 0 < n) (hn2 : n ≤ 65536) :
    Calls Try.prog 12 #[.agg (ints ks).toArray, .agg (ints ns).toArray, .int .u32 c, .slice (some ad) n cp] w (XorAt w (xorL ks ns c bs n)) := by
  obtain ⟨i0, hi, hz0, hz1, hz2⟩ := info_parts info5
  have hn0 : ((n : Int) == 0) = false := by simp; omega
  have SK := Lib.hid (show (Try.prog.info? 23).map (·.size) = some (ints ks).toArray.size by rw [size23]; simp [ints, hk])
  have SN := Lib.hid (show (Try.prog.info? 29).map (·.size) = some (ints ns).toArray.size by rw [size29]; simp [ints, hn])
  have HK := Lib.hid hk
  have HN := Lib.hid hn
  have BK := Lib.hid bk
  have BN := Lib.hid bn
  have HC := Lib.hid hc
  have HR := Lib.hid hr
  have HL := Lib.hid hl
  have HB := Lib.hid hb
  clear hk hn bk bn hc hr hl hb
  refine (callsIn_wide (n := 9)).1 ?_
  refine callsIn_of_wp_marks Try.func12 rfl trivial ?_ rfl
  refine wpIn_wide.2 ?_
  simp only [Try.ntmps12, List.size_toArray, List.length_cons, List.length_nil, Nat.reduceAdd, Nat.reduceSub, Array.replicate_succ, Array.replicate_zero, List.push_toArray, List.append_toArray, List.nil_append, List.cons_append]
  obtain ⟨Q', hQ'⟩ : ∃ Q', bodyPostM Fence.wide 9 Try.prog Try.f12 (XorAt w (xorL ks ns c bs n)) = Q' := ⟨_, rfl⟩
  rw [hQ']
  have HQ := Lib.hid hQ'
  clear hQ'
  go_wp2_with (first
    | (refine wpList_make_own _ rfl _ _ 25 rfl 0 5 i0 (.int .u8 0) 1 Try.underlying25 hi hz0 hz1 .i64 .i64 _ n rfl rfl rfl (by rw [hz2]; omega) (by unfold maxLen; omega) (Nat.zero_le _) ?_; intro w1 own1 grow1; have GR : Hid ((four w (ints ks).toArray (ints ns).toArray (.slice (some ad) n cp)).grownBy w1 none) := Lib.hid grow1; have FF := Lib.hid (four_facts w _ _ _ grow1); have OW : Hid (Own w1 (.slice (some ⟨w.heap.size + 1 + 1 + 1 + 1, 0, none⟩) 0 n) []) := Lib.hid (by have := own1; simp at this; exact this); have hlt : w.heap.size + 1 + 1 + 1 + 1 ≤ w1.heap.size := FF.out.2.2.2.2.1; have c13 : ∀ o, (w1.alloc o).cell? ⟨w.heap.size + 1 + 1, 0, none⟩ = some (.slice (some ad) n cp) := fun o => cell_of ((heap_old_at w1 o _ (by omega)).trans FF.out.2.2.1) 0; clear own1 grow1)
    | (refine wpList_load_row rfl 23 _ rfl w.heap.size rfl 23 (ints ks).toArray (0, 0) _ ((heap_old_at _ _ _ (by omega)).trans FF.out.1) Try.underlying23 rfl SK.out ?_)
    | (refine wpList_load_row rfl 29 _ rfl (w.heap.size + 1) rfl 29 (ints ns).toArray (0, 0) _ ((heap_old_at _ _ _ (by omega)).trans FF.out.2.1) Try.underlying29 rfl SN.out ?_)
    | (go_at_call 20; refine (blocks_ok _ _ c _).mono ?_; rintro e w' ⟨rfl, rfl⟩))
  have XS0 := Lib.hid (xs_start (bs := bs) HC.out GR.out OW.out)
  obtain ⟨w0, e0⟩ : ∃ w0, ((((w1.alloc (.cells #[.slice (some ⟨w.heap.size + 1 + 1 + 1 + 1, 0, none⟩) 0 n] 25)).alloc (.cells (ints ks).toArray 23)).alloc (.cells (ints ns).toArray 29)).alloc (.cells #[.int .u32 c] 24)) = w0 := ⟨_, rfl⟩
  rw [e0] at XS0 ⊢
  clear e0 c13 FF GR OW
  refine (wpIn_wide (n := 9)).1 ?_
  refine range_blocks HK.out HN.out BK.out BN.out 9 (n / 64 + 1) w.heap.size (w1.heap.size + 1) XS0.out.below.size rfl
    (fun i => XS w ks ns bs c (some ad) n cp w1.heap.size (w1.heap.size + 1) i (64 * i)) (fun i => XS w ks ns bs c (some ad) n cp w1.heap.size (w1.heap.size + 1) i (64 * (i + 1))) (XF w ks ns bs c n)
    (fun i => XS.calm) (fun i => XS.calm) XF.calm (fun i W h => h.it) (fun i W W' h b => h.later b) (fun i W h => ⟨by have := h.le; omega, h.it.count, h.count⟩) XS0.out
    (fun i X => { tmps := #[.agg (ints ks).toArray, .agg (ints ns).toArray, .int .u32 c, .slice (some ad) n cp, .pointer (some ⟨w.heap.size, 0, none⟩), .pointer (some ⟨w.heap.size + 1, 0, none⟩), undef, .pointer (some ⟨w.heap.size + 1 + 1, 0, none⟩), .pointer (some ⟨w.heap.size + 1 + 1 + 1, 0, none⟩), .pointer (some ⟨w1.heap.size, 0, none⟩), .pointer (some ⟨X, 0, none⟩), undef, undef, .slice (some ad) n cp, .int .i64 n, .slice (some ⟨w.heap.size + 1 + 1 + 1 + 1, 0, none⟩) 0 n, .slice (some ad) n cp, .int .i64 n, .bool false, .agg (ints ks).toArray, .agg (ints ns).toArray, .int .u32 c, .func (.func 24) #[] #[.pointer (some ⟨w1.heap.size + 1, 0, none⟩), .pointer (some ⟨w1.heap.size + 1 + 1, 0, none⟩), .pointer (some ⟨w1.heap.size + 1 + 1 + 1, 0, none⟩)], .agg (ints (blk ks ns (ctr c i))).toArray, undef, undef, undef, undef, undef, undef, undef, undef, undef, undef, undef, undef, undef, undef, undef, undef, undef, undef, undef, undef, undef, undef], defers := [] }) ?assign ?body ?stop
  case assign =>
    intro l i W K hXS hK
    have HX := Lib.hid hXS
    have HKK := Lib.hid hK
    have SB : Hid ((ints (blk ks ns (ctr c i))).length = 64) := Lib.hid (by simp [ints, blk_length])
    clear hXS hK
    gi_wp2_with (refine wpListIn_store_row rfl 32 _ _ rfl W.heap.size (ints (blk ks ns (ctr c i))) rfl rfl 32 _ (heap_new_at W _ _ rfl) SB.out (by rw [SB.out]; exact size32) (ints_one _) ?_; intro W2 hg2 k2)
    have hg1 : (W.alloc (.cells #[.int .u8 0, .int .u8 0, .int .u8 0, .int .u8 0, .int .u8 0, .int .u8 0, .int .u8 0, .int .u8 0, .int .u8 0, .int .u8 0, .int .u8 0, .int .u8 0, .int .u8 0, .int .u8 0, .int .u8 0, .int .u8 0, .int .u8 0, .int .u8 0, .int .u8 0, .int .u8 0, .int .u8 0, .int .u8 0, .int .u8 0, .int .u8 0, .int .u8 0, .int .u8 0, .int .u8 0, .int .u8 0, .int .u8 0, .int .u8 0, .int .u8 0, .int .u8 0, .int .u8 0, .int .u8 0, .int .u8 0, .int .u8 0, .int .u8 0, .int .u8 0, .int .u8 0, .int .u8 0, .int .u8 0, .int .u8 0, .int .u8 0, .int .u8 0, .int .u8 0, .int .u8 0, .int .u8 0, .int .u8 0, .int .u8 0, .int .u8 0, .int .u8 0, .int .u8 0, .int .u8 0, .int .u8 0, .int .u8 0, .int .u8 0, .int .u8 0, .int .u8 0, .int .u8 0, .int .u8 0, .int .u8 0, .int .u8 0, .int .u8 0, .int .u8 0] 32)).heap[W.heap.size]? = some (.cells #[.int .u8 0, .int .u8 0, .int .u8 0, .int .u8 0, .int .u8 0, .int .u8 0, .int .u8 0, .int .u8 0, .int .u8 0, .int .u8 0, .int .u8 0, .int .u8 0, .int .u8 0, .int .u8 0, .int .u8 0, .int .u8 0, .int .u8 0, .int .u8 0, .int .u8 0, .int .u8 0, .int .u8 0, .int .u8 0, .int .u8 0, .int .u8 0, .int .u8 0, .int .u8 0, .int .u8 0, .int .u8 0, .int .u8 0, .int .u8 0, .int .u8 0, .int .u8 0, .int .u8 0, .int .u8 0, .int .u8 0, .int .u8 0, .int .u8 0, .int .u8 0, .int .u8 0, .int .u8 0, .int .u8 0, .int .u8 0, .int .u8 0, .int .u8 0, .int .u8 0, .int .u8 0, .int .u8 0, .int .u8 0, .int .u8 0, .int .u8 0, .int .u8 0, .int .u8 0, .int .u8 0, .int .u8 0, .int .u8 0, .int .u8 0, .int .u8 0, .int .u8 0, .int .u8 0, .int .u8 0, .int .u8 0, .int .u8 0, .int .u8 0, .int .u8 0] 32 (0, 0)) := heap_new_at W _ _ rfl
    have xs1 := HX.out.later (W' := W.alloc (.cells #[.int .u8 0, .int .u8 0, .int .u8 0, .int .u8 0, .int .u8 0, .int .u8 0, .int .u8 0, .int .u8 0, .int .u8 0, .int .u8 0, .int .u8 0, .int .u8 0, .int .u8 0, .int .u8 0, .int .u8 0, .int .u8 0, .int .u8 0, .int .u8 0, .int .u8 0, .int .u8 0, .int .u8 0, .int .u8 0, .int .u8 0, .int .u8 0, .int .u8 0, .int .u8 0, .int .u8 0, .int .u8 0, .int .u8 0, .int .u8 0, .int .u8 0, .int .u8 0, .int .u8 0, .int .u8 0, .int .u8 0, .int .u8 0, .int .u8 0, .int .u8 0, .int .u8 0, .int .u8 0, .int .u8 0, .int .u8 0, .int .u8 0, .int .u8 0, .int .u8 0, .int .u8 0, .int .u8 0, .int .u8 0, .int .u8 0, .int .u8 0, .int .u8 0, .int .u8 0, .int .u8 0, .int .u8 0, .int .u8 0, .int .u8 0, .int .u8 0, .int .u8 0, .int .u8 0, .int .u8 0, .int .u8 0, .int .u8 0, .int .u8 0, .int .u8 0] 32)) ((Below.refl _ W).alloc (Nat.le_refl _) _)
    exact HKK.out _ W2 hg2 (xs1.keeps k2 (fun j hj => by have := HX.out.below.size; omega) (fun j cs t f hj hh => by subst hj; rw [hg1] at hh; injection hh with hh; injection hh with _ ht; subst ht; decide)) ((KeepsOthers.alloc W _).trans (others_of_keeps k2 (fun j o hj hh => by subst hj; rw [hg1] at hh; cases hh; rfl)))
  case stop =>
    intro D W hD hx hd
    refine wpIn_wide.2 ?_
    have HX := Lib.hid hx
    have HD := Lib.hid hd
    clear hx hd
    go_wp2
    have hf := XF.calm W D _ (.deferred none) HX.out (by have := XS0.out.below.size; omega) HD.out rfl
    obtain ⟨g, cc, o1, o2, o3⟩ := hf.out
    rw [← HQ.out]
    refine ⟨by simp, .inl ⟨_, _, rfl, run_takeDeferred HD.out, ?_⟩⟩
    have c8 : (W.putObj D (.deferred none)).cell? ⟨w.heap.size + 1 + 1 + 1, 0, none⟩ = some (.slice (some ⟨g, 0, none⟩) n cc) := cell_of o1 0
    refine ⟨.slice (some ⟨g, 0, none⟩) n cc, ?_, _, _, _, rfl, o2, hf.below, ?_⟩
    · simp [results, Try.results12, c8, go_sem]
    · intro j hj
      have : j = g := by simpa [Value.ownBlock] using hj.symm
      omega
  case body =>
    intro l i X W hX hXS
    have HX := Lib.hid hX
    have S0 := Lib.hid hXS
    have SB : Hid ((Try.prog.info? 32).map (·.size) = some (ints (blk ks ns (ctr c i))).toArray.size) := Lib.hid (by rw [size32]; simp [ints, blk_length])
    have BL : Hid ((blk ks ns (ctr c i)).length = 64) := Lib.hid (blk_length _ _ _)
    have BB : Hid (Bytes (blk ks ns (ctr c i))) := Lib.hid (blk_bytes _ _ _)
    have ESB : Hid (∀ k, k < 64 → sb ks ns c (64 * i + k) = (blk ks ns (ctr c i)).getD k 0) := Lib.hid (fun k hk => by unfold sb; rw [show (64 * i + k) / 64 = i by omega, show (64 * i + k) % 64 = k by omega])
    obtain ⟨yb, hyb⟩ : ∃ yb, blk ks ns (ctr c i) = yb := ⟨_, rfl⟩
    rw [hyb] at HX SB BL BB ESB ⊢
    clear hX hXS hyb
    gi_wp2_with (refine wpListIn_load_row rfl 32 _ rfl X rfl 32 (ints yb).toArray (0, 0) _ HX.out Try.underlying32 rfl SB.out ?_)
    gi_loopw [25] (fun u wr => ∃ k : Nat, k ≤ 64 ∧ u = .int .i64 k ∧ XS w ks ns bs c (some ad) n cp w1.heap.size (w1.heap.size + 1) i (64 * i + k) wr ∧ KeepsOthers W wr) (fun u _ => 64 - (intOf u).toNat)
    case atStart => exact ⟨0, Nat.zero_le _, rfl, S0.out, KeepsOthers.refl _⟩
    case round =>
      obtain ⟨k, hk, rfl, hxs, hko⟩ := hrel
      have HS := Lib.hid hxs
      have KO := Lib.hid hko
      clear hxs hko
      by_cases hlt : k < 64
      · obtain ⟨y, hy⟩ : ∃ y, yb.getD k 0 = y := ⟨_, rfl⟩
        have ix : ∀ w, (Instr.index 32 (.agg (ints yb).toArray) (.int .i64 k)).run Try.prog w = .ok (.int .u8 y) w := fun w => by rw [index_byte yb BL.out k hlt w, hy]
        have BY : Hid (Byte y) := Lib.hid (by rw [← hy]; exact BB.out.at_ (by rw [BL.out]; exact hlt))
        have EY := Lib.hid hy
        clear hy
        obtain ⟨M, hM⟩ : ∃ M, 64 * i + k = M := ⟨_, rfl⟩
        have EM := Lib.hid hM
        have HSM : Hid (XS w ks ns bs c (some ad) n cp w1.heap.size (w1.heap.size + 1) i M wr) := Lib.hid (by rw [← hM]; exact HS.out)
        clear hM
        obtain ⟨g, cc, o1, o2, o3⟩ := HSM.out.out
        have c9 : wr.cell? ⟨w1.heap.size, 0, none⟩ = some (.slice (some ⟨g, 0, none⟩) M cc) := cell_of o1 0
        have c7 : wr.cell? ⟨w.heap.size + 1 + 1, 0, none⟩ = some (.slice (some ad) n cp) := cell_of HSM.out.src 0
        have c8 : wr.cell? ⟨w.heap.size + 1 + 1 + 1, 0, none⟩ = some (.slice none 0 0) := cell_of HSM.out.res 0
        have f8 := frozen_of HSM.out.res 0
        have O1 := Lib.hid o1
        have O2 := Lib.hid o2
        have O3 := Lib.hid o3
        have hMn := HSM.out.le
        clear o1 o2 o3
        have iM0 : (0 : Int) ≤ (M : Int) := by omega
        by_cases hmn : M = n
        · have hq : ((M : Int) == (n : Int)) = true := by simp [hmn]
          have HMN := Lib.hid hmn
          clear hmn
          gi_wp2
          have hs := HSM.out
          have p1 := O1.out
          have p2 := O2.out
          rw [HMN.out] at hs p1 p2
          have hf := hs.done p1 p2 O3.out
          rw [HMN.out]
          exact ⟨KO.out.trans (KeepsOthers.setCell _ _ _), hf⟩
        · have hq : ((M : Int) == (n : Int)) = false := by simp; omega
          have iM1 : (M : Int) < (n : Int) := by omega
          have hMlt : M < n := by omega
          clear hmn
          obtain ⟨x, hx⟩ : ∃ x, bs.getD M 0 = x := ⟨_, rfl⟩
          have hrd : Reads wr (some ad) bs := HR.out.keeps (Keeps.of_below HSM.out.below (S := fun _ => False)) (fun _ _ h => h)
          have cx : wr.cell? (ad.add M) = some (.int .u8 x) := by rw [hrd.2 ad rfl M (by rw [HL.out]; exact hMlt), hx]
          have BX : Hid (Byte x) := Lib.hid (by rw [← hx]; exact HB.out.at_ (by rw [HL.out]; exact hMlt))
          obtain ⟨z, hz⟩ : ∃ z, bits .xor .u8 x y = z := ⟨_, rfl⟩
          have EZ : Hid (z = xr (bs.getD M 0) (sb ks ns c M)) := Lib.hid (by rw [← hz, bits_xr8 BX.out BY.out, hx, ← EM.out, ESB.out k hlt, EY.out])
          clear hrd hx
          gi_wp2
          refine round_E (e := 10) (S := fun w' => w'.cell? ⟨w1.heap.size, 0, none⟩ = some (.slice (some ⟨g, 0, none⟩) M cc) ∧ w'.cell? ⟨w.heap.size + 1 + 1, 0, none⟩ = some (.slice (some ad) n cp) ∧ w'.cell? (ad.add M) = some (.int .u8 x)) (by kernel_rfl) (by kernel_rfl) (fun ⟨_, _, h⟩ => h) ?_
          have hS : wr.drew.cell? ⟨w1.heap.size, 0, none⟩ = some (.slice (some ⟨g, 0, none⟩) M cc) ∧ wr.drew.cell? ⟨w.heap.size + 1 + 1, 0, none⟩ = some (.slice (some ad) n cp) ∧ wr.drew.cell? (ad.add M) = some (.int .u8 x) := ⟨c9, c7, cx⟩
          have HSS := Lib.hid hS
          clear hS
          refine wpAnyE_take (i := 0) (.slice (some ⟨g, 0, none⟩) M cc) rfl (by kernel_rfl) (by kernel_rfl) (by kernel_rfl) (by kernel_rfl) (fun _ _ _ h => h) (by rfl) (fun w' hw' => ?_) HSS.out ?_
          · obtain ⟨s1, s2, s3⟩ := hw'
            go_simp
          simp only [Act.put, List.setIfInBounds_toArray, List.set_cons_zero, List.set_cons_succ]
          refine wpAnyE_take (i := 1) (.slice (some ad) n cp) rfl (by kernel_rfl) (by kernel_rfl) (by kernel_rfl) (by kernel_rfl) (fun _ _ _ h => h) (by rfl) (fun w' hw' => ?_) HSS.out ?_
          · obtain ⟨s1, s2, s3⟩ := hw'
            go_simp
          simp only [Act.put, List.setIfInBounds_toArray, List.set_cons_zero, List.set_cons_succ]
          refine wpAnyE_take (i := 2) (.slice (some ⟨g, 0, none⟩) M cc) rfl (by kernel_rfl) (by kernel_rfl) (by kernel_rfl) (by kernel_rfl) (fun _ _ _ h => h) (by rfl) (fun w' hw' => ?_) HSS.out ?_
          · obtain ⟨s1, s2, s3⟩ := hw'
            go_simp
          simp only [Act.put, List.setIfInBounds_toArray, List.set_cons_zero, List.set_cons_succ]
          refine wpAnyE_take (i := 3) (.int .i64 M) rfl (by kernel_rfl) (by kernel_rfl) (by kernel_rfl) (by kernel_rfl) (fun _ _ _ h => h) (by rfl) (fun w' hw' => ?_) HSS.out ?_
          · obtain ⟨s1, s2, s3⟩ := hw'
            go_simp
          simp only [Act.put, List.setIfInBounds_toArray, List.set_cons_zero, List.set_cons_succ]
          refine wpAnyE_take (i := 4) (.pointer (some (ad.add M))) rfl (by kernel_rfl) (by kernel_rfl) (by kernel_rfl) (by kernel_rfl) (fun _ _ _ h => h) (by rfl) (fun w' hw' => ?_) HSS.out ?_
          · obtain ⟨s1, s2, s3⟩ := hw'
            go_simp
          simp only [Act.put, List.setIfInBounds_toArray, List.set_cons_zero, List.set_cons_succ]
          refine wpAnyE_take (i := 5) (.int .u8 x) rfl (by kernel_rfl) (by kernel_rfl) (by kernel_rfl) (by kernel_rfl) (fun _ _ _ h => h) (by rfl) (fun w' hw' => ?_) HSS.out ?_
          · obtain ⟨s1, s2, s3⟩ := hw'
            go_simp
          simp only [Act.put, List.setIfInBounds_toArray, List.set_cons_zero, List.set_cons_succ]
          refine wpAnyE_take (i := 6) (.int .u8 y) rfl (by kernel_rfl) (by kernel_rfl) (by kernel_rfl) (by kernel_rfl) (fun _ _ _ h => h) (by rfl) (fun w' hw' => ?_) HSS.out ?_
          · obtain ⟨s1, s2, s3⟩ := hw'
            go_simp
          simp only [Act.put, List.setIfInBounds_toArray, List.set_cons_zero, List.set_cons_succ]
          refine wpAnyE_take (i := 7) (.int .u8 z) rfl (by kernel_rfl) (by kernel_rfl) (by kernel_rfl) (by kernel_rfl) (fun _ _ _ h => h) (by rfl) (fun w' hw' => ?_) HSS.out ?_
          · obtain ⟨s1, s2, s3⟩ := hw'
            go_simp
          simp only [Act.put, List.setIfInBounds_toArray, List.set_cons_zero, List.set_cons_succ]
          refine wpAnyE_one 8 rfl (by kernel_rfl) (by rfl) (fun K hK => ?_)
          go_simp
          have hA : ∀ o : Obj, ((wr.drew).alloc o).cell? ⟨w1.heap.size, 0, none⟩ = some (.slice (some ⟨g, 0, none⟩) M cc) ∧ ((wr.drew).alloc o).cell? ⟨w.heap.size + 1 + 1, 0, none⟩ = some (.slice (some ad) n cp) ∧ ((wr.drew).alloc o).cell? (ad.add M) = some (.int .u8 x) := fun o =>
            ⟨Lib.cell?_alloc_some _ HSS.out.1, Lib.cell?_alloc_some _ HSS.out.2.1, Lib.cell?_alloc_some _ HSS.out.2.2⟩
          refine hK _ _ (.inr (hA _)) ?_
          clear hK K
          try simp only [Act.put, List.setIfInBounds_toArray, List.set_cons_zero, List.set_cons_succ]
          refine wpAnyE_one 9 rfl (by kernel_rfl) (by rfl) (fun K hK => ?_)
          refine wp_app _ _ rfl (.slice (some ⟨g, 0, none⟩) M cc) (xorL ks ns c bs M) rfl (O2.out.keeps ((Keeps.drew wr (fun _ => False)).trans (Keeps.alloc _ (.cells #[.int .u8 z] 5) (fun _ => False)) (fun _ _ h => h)) (fun _ _ h => h)) (some ⟨wr.heap.size, 0, none⟩) 1 1 [z] rfl (fun h => by cases h) ⟨(fun h => by cases h), (fun x hx j hj => ?_)⟩ rfl (by rw [xorL_length]; omega) ?_
          · cases hx
            obtain rfl : j = 0 := by simp at hj; omega
            exact cell_of (heap_new_at wr.drew _ _ rfl) 0
          intro a' n' c' w2 own' k' f'
          obtain ⟨cur, hgc⟩ := own_type O2.out
          have ngB := ne_type O1.out hgc (by decide)
          have ng2 := ne_type HSM.out.src hgc (by decide)
          have OWN := Lib.hid own'
          have KP := Lib.hid k'
          have FR := Lib.hid f'
          have hgw := O3.out
          have hadl : ad.block < w.heap.size := by
            have h0 := HR.out.2 ad rfl 0 (by rw [HL.out]; exact hn1)
            have := World.block_lt_of_cell? w _ h0
            rwa [add_block] at this
          have S2 : w2.cell? ⟨w1.heap.size, 0, none⟩ = some (.slice (some ⟨g, 0, none⟩) M cc) ∧ w2.cell? ⟨w.heap.size + 1 + 1, 0, none⟩ = some (.slice (some ad) n cp) ∧ w2.cell? (ad.add M) = some (.int .u8 x) :=
            ⟨KP.out.cell_some (hA _).1 (fun h => by simp [Row, Value.ownBlock] at h; omega), KP.out.cell_some (hA _).2.1 (fun h => by simp [Row, Value.ownBlock] at h; omega), KP.out.cell_some (hA _).2.2 (fun h => by rw [add_block] at h; simp [Row, Value.ownBlock] at h; omega)⟩
          have f9 : w2.frozen? ⟨w1.heap.size, 0, none⟩ = false := frozen_of (KP.out.heap ((heap_old_at wr.drew (.cells #[.int .u8 z] 5) _ (heap_lt O1.out)).trans O1.out) (fun h => by simp [Row, Value.ownBlock] at h; omega)) 0
          refine hK _ _ (.inr S2) ?_
          have c9' := S2.1
          clear hK K own' k' f' hA hgc
          try simp only [Act.put, List.setIfInBounds_toArray, List.set_cons_zero, List.set_cons_succ]
          refine wpAnyE_one 10 rfl (by kernel_rfl) (by rfl) (fun K hK => ?_)
          go_simp
          refine hK _ _ (.inl rfl) ?_
          clear hK K S2 f9 c9'
          try simp only [Act.put, List.setIfInBounds_toArray, List.set_cons_zero, List.set_cons_succ]
          refine wpAnyE_done (by kernel_rfl) ?_ _
          have OWN2 : Own w2 (.slice a' n' c') (xorL ks ns c bs (M + 1)) := by show Own w2 _ (xorL ks ns c bs M ++ [xr (bs.getD M 0) (sb ks ns c M)]); rw [← EZ.out]; exact OWN.out
          have NEW := Lib.hid (HSM.out.more hMlt O1.out O2.out O3.out OWN2 KP.out FR.out)
          have KO2 : Hid (KeepsOthers W (w2.setCell ⟨w1.heap.size, 0, none⟩ (.slice a' n' c'))) := Lib.hid (KO.out.trans (((KeepsOthers.drew wr).trans (KeepsOthers.alloc _ (.cells #[.int .u8 z] 5))).trans ((others_of_keeps KP.out (fun j o hj hh => by
            obtain ⟨cur, hg⟩ := own_type O2.out
            have e : j = g := by simpa [Row, Value.ownBlock] using hj.symm
            subst e
            have hh2 : (wr.alloc (.cells #[.int .u8 z] 5)).heap[j]? = some o := hh
            rw [heap_old_at _ _ _ (heap_lt hg), hg] at hh2
            cases hh2; rfl)).trans (KeepsOthers.setCell _ _ _))))
          clear OWN2
          obtain ⟨w3, e3⟩ : ∃ w3, w2.setCell ⟨w1.heap.size, 0, none⟩ (.slice a' n' c') = w3 := ⟨_, rfl⟩
          rw [e3] at NEW KO2
          rw [e3]
          clear e3 c9 c7 c8 f8 cx hz ix
          gi_wp2
          go_roundw
          case rel => exact ⟨k + 1, by omega, by go_num, by rw [← Nat.add_assoc, EM.out]; exact NEW.out, KO2.out⟩
          case measure => simp [intOf]; omega
      · obtain rfl : k = 64 := by omega
        gi_wp2
        exact ⟨KO.out, by have := HS.out; rw [show 64 * i + 64 = 64 * (i + 1) by omega] at this; exact this⟩
end Go.Proofs.Ytmineipjnllopaa
