/- ChachaShort: the walk. -/
import Derived.Test.YtmineipjnllopaaH4
namespace Go.Proofs.Ytmineipjnllopaa
open Go.RowKit Go.Shelf
set_option linter.unusedVariables false
set_option linter.unusedSimpArgs false

/-- The nonce that ChachaShort writes out. -/
def z9 : List Int := [9, 0, 0, 0, 0, 0, 0, 0, 0, 0, 0, 0]
theorem z9_bytes : Bytes z9 := by
  intro x hx
  simp [z9] at hx
  rcases hx with rfl | rfl <;> exact ⟨by decide, by decide⟩

set_option maxHeartbeats 4000000 in
set_option maxRecDepth 100000 in
theorem short_big (ks bs : List Int) (b0 : Option Addr) (n cp : Nat) (z : Int) (w : World) (hn : 500 < n) :
    Calls Try.prog 6 #[.agg (ints ks).toArray, .slice b0 n cp, .int .u16 z] w fun e w' => e = .returned (.bool true) ∧ Below w.heap.size w w' := by
  have hb1 : (n : Int) > 500 := by omega
  go_enter Try.func6, Try.ntmps6
  go_wp2_with (go_at_call 9; refine (awake_at' _).mono ?_)
  rintro e w1 ⟨rfl, b1⟩
  have B1 := Lib.hid (((Below.refl w.heap.size w).alloc (Nat.le_refl _) (.cells (ints ks).toArray 23)).trans (b1.mono (by simp)))
  clear b1
  go_wp2_with (go_at_call 9; refine (awake_at' _).mono ?_)
  rintro e w2 ⟨rfl, b2⟩
  have B2 := Lib.hid (B1.out.trans (b2.mono B1.out.size))
  clear b2
  go_wp2
  go_ret
  exact ⟨rfl, B2.out⟩

set_option maxHeartbeats 4000000 in
set_option maxRecDepth 100000 in
theorem short_in (ks bs : List Int) (b0 : Option Addr) (n cp a : Nat) (w : World) (hk : ks.length = 32) (bk : Bytes ks) (hr : Reads w b0 bs) (hl : bs.length = n) (hb : Bytes bs) (hcp : n ≤ cp) (hn : n ≤ 500) (ha : a < 65536) :
    Calls Try.prog 6 #[.agg (ints ks).toArray, .slice b0 n cp, .int .u16 a] w fun e w' => e = .returned (.bool true) ∧ Below w.heap.size w w' := by
  have sk := Lib.hid (show (Try.prog.info? 23).map (·.size) = some (ints ks).toArray.size by rw [size23]; simp [ints, hk])
  have hc : Word 3 := ⟨by decide, by decide⟩
  obtain ⟨k, hk'⟩ : ∃ k, a % (n + 1) = k := ⟨_, rfl⟩
  have hkn : k ≤ n := by have := Nat.mod_lt a (show 0 < n + 1 by omega); omega
  have HK : Hid (k ≤ n ∧ n ≤ cp ∧ k ≤ 500) := Lib.hid ⟨hkn, hcp, by omega⟩
  have XO := Lib.hid (fun (b0 : Option Addr) (m cp : Nat) (bs : List Int) (w : World) (hr : Reads w b0 bs) (hl : bs.length = m) (hb : Bytes bs) (hm : m ≤ 65536) => xor_row ks z9 bs 3 b0 m cp w hk rfl bk z9_bytes hc hr hl hb hm)
  have SO := Lib.hid (fun (w : World) => stream_at' ks z9 3 k w hk rfl bk z9_bytes hc (by omega))
  have RS := Lib.hid (fun (w : World) => rstream_ok ks z9 3 k w hk rfl bk z9_bytes hc (by omega))
  have XT : Hid ((xorL ks z9 3 bs n).take k = xorL ks z9 3 (bs.take k) k) := Lib.hid (xorL_take ks z9 3 bs n k hkn)
  have HR := Lib.hid hr
  have HL := Lib.hid hl
  have HLK : Hid ((bs.take k).length = k) := Lib.hid (by simp; omega)
  have HB := Lib.hid hb
  have HBK : Hid (Bytes (bs.take k)) := Lib.hid (fun x hx => hb x (List.mem_of_mem_take hx))
  have m1 : Int.tmod (a : Int) ((n : Int) + 1) = (k : Int) := by
    rw [show ((n : Int) + 1) = ((n + 1 : Nat) : Int) by omega]
    have : Int.tmod (a : Int) ((n + 1 : Nat) : Int) = ((a % (n + 1) : Nat) : Int) := rfl
    rw [this, hk']
  have m1' : (a : Int) % ((n : Int) + 1) = (k : Int) := by
    rw [show ((n : Int) + 1) = ((n + 1 : Nat) : Int) by omega, ← hk']
    rfl
  have m2 : IntKind.i64.wrap (a : Int) = (a : Int) := IntWalk.i64_in _ (by omega)
  have m3 : IntKind.i64.wrap ((n : Int) + 1) = (n : Int) + 1 := IntWalk.i64_in _ (by omega)
  have m4 : IntKind.i64.wrap (k : Int) = (k : Int) := IntWalk.i64_in _ (by omega)
  have m5 : ¬ ((n : Int) + 1 = 0) := by omega
  have i0 : (0 : Int) ≤ (k : Int) := by omega
  have i1 : (k : Int) ≤ 500 := by omega
  have i2 : ¬ (n : Int) > 500 := by omega
  have i3 : (0 : Int) ≤ (a : Int) := by omega
  have i4 : (0 : Int) ≤ (n : Int) := by omega
  clear hk bk hc hr hl hb hk' hcp ha
  have e0 : ∃ w0, w.alloc (.cells (ints ks).toArray 23) = w0 := ⟨_, rfl⟩
  go_enter Try.func6, Try.ntmps6
  go_wp2_with (go_at_call 9; refine (awake_at' _).mono ?_)
  obtain ⟨w0, e0⟩ := e0
  rw [e0]
  have R1 := Lib.hid (show w0.heap[w.heap.size]? = some (.cells (ints ks).toArray 23 (0, 0)) by rw [← e0]; exact heap_new_at _ _ _ rfl)
  have KB := Lib.hid (show Below w.heap.size w w0 by rw [← e0]; exact (Below.refl _ _).alloc (Nat.le_refl _) _)
  clear e0
  rintro e w1 ⟨rfl, b1⟩
  have B1 := Lib.hid (KB.out.trans (b1.mono KB.out.size))
  have R1' := Lib.hid ((b1.block _ (heap_lt R1.out)).trans R1.out)
  clear b1 R1 KB
  go_wp2
  have HRW : Hid (∀ w', Below w.heap.size w w' → Reads w' b0 bs) := Lib.hid (fun w' hw' => HR.out.later hw')
  have HS : Hid (Below w1.heap.size w1 w1.drew) := Lib.hid (Below.refl _ w1).drew
  have CK : Hid (∀ w', Below w1.heap.size w1 w' → w'.heap[w.heap.size]? = some (.cells (ints ks).toArray 23 (0, 0))) := Lib.hid (fun w' hw' => (hw'.block _ (heap_lt R1'.out)).trans R1'.out)
  refine wp_region_any (by kernel_rfl) (wpAny_of_E (S := fun w' => Below w1.heap.size w1 w') (e := 11) _ _ _ _ ?_)
  change wpAnyE _ _ _ _ _ _ _ _ _ (World.drew _)
  refine wpAnyE_take (i := 0) (.agg (ints ks).toArray) rfl (by kernel_rfl) (by kernel_rfl) (by kernel_rfl) (by kernel_rfl) (fun _ _ _ h => h) (by rfl) (fun w' hw' => exec_load_row 23 _ rfl w.heap.size rfl 23 _ (0, 0) _ (CK.out w' hw') Try.underlying23 rfl sk.out) HS.out ?_
  simp only [Act.put, List.getElem_toArray, List.getElem_cons_succ, List.getElem_cons_zero, List.setIfInBounds_toArray, List.set_cons_zero, List.set_cons_succ]
  refine wpAnyE_take (i := 1) (.agg (ints z9).toArray) rfl (by kernel_rfl) (by kernel_rfl) (by kernel_rfl) (by kernel_rfl) (fun _ _ _ h => h) (by rfl) (fun w' hw' => by go_simp; rfl) HS.out ?_
  simp only [Act.put, List.getElem_toArray, List.getElem_cons_succ, List.getElem_cons_zero, List.setIfInBounds_toArray, List.set_cons_zero, List.set_cons_succ]
  refine wpAnyE_take (i := 2) (.slice b0 n cp) rfl (by kernel_rfl) (by kernel_rfl) (by kernel_rfl) (by kernel_rfl) (fun _ _ _ h => h) (by rfl) (fun w' hw' => by go_simp) HS.out ?_
  simp only [Act.put, List.getElem_toArray, List.getElem_cons_succ, List.getElem_cons_zero, List.setIfInBounds_toArray, List.set_cons_zero, List.set_cons_succ]
  refine wpAnyE_take (i := 4) (.agg (ints ks).toArray) rfl (by kernel_rfl) (by kernel_rfl) (by kernel_rfl) (by kernel_rfl) (fun _ _ _ h => h) (by rfl) (fun w' hw' => exec_load_row 23 _ rfl w.heap.size rfl 23 _ (0, 0) _ (CK.out w' hw') Try.underlying23 rfl sk.out) HS.out ?_
  simp only [Act.put, List.getElem_toArray, List.getElem_cons_succ, List.getElem_cons_zero, List.setIfInBounds_toArray, List.set_cons_zero, List.set_cons_succ]
  refine wpAnyE_take (i := 5) (.agg (ints z9).toArray) rfl (by kernel_rfl) (by kernel_rfl) (by kernel_rfl) (by kernel_rfl) (fun _ _ _ h => h) (by rfl) (fun w' hw' => by go_simp; rfl) HS.out ?_
  simp only [Act.put, List.getElem_toArray, List.getElem_cons_succ, List.getElem_cons_zero, List.setIfInBounds_toArray, List.set_cons_zero, List.set_cons_succ]
  refine wpAnyE_take (i := 6) (.slice b0 n cp) rfl (by kernel_rfl) (by kernel_rfl) (by kernel_rfl) (by kernel_rfl) (fun _ _ _ h => h) (by rfl) (fun w' hw' => by go_simp) HS.out ?_
  simp only [Act.put, List.getElem_toArray, List.getElem_cons_succ, List.getElem_cons_zero, List.setIfInBounds_toArray, List.set_cons_zero, List.set_cons_succ]
  refine wpAnyE_take (i := 7) (.int .i64 k) rfl (by kernel_rfl) (by kernel_rfl) (by kernel_rfl) (by kernel_rfl) (fun _ _ _ h => h) (by rfl) (fun w' hw' => by go_simp) HS.out ?_
  simp only [Act.put, List.getElem_toArray, List.getElem_cons_succ, List.getElem_cons_zero, List.setIfInBounds_toArray, List.set_cons_zero, List.set_cons_succ]
  refine wpAnyE_take (i := 8) (.slice b0 k cp) rfl (by kernel_rfl) (by kernel_rfl) (by kernel_rfl) (by kernel_rfl) (fun _ _ _ h => h) (by rfl) (fun w' hw' => exec_cut _ _ rfl b0 n cp k rfl rfl (Nat.le_trans HK.out.1 HK.out.2.1)) HS.out ?_
  simp only [Act.put, List.getElem_toArray, List.getElem_cons_succ, List.getElem_cons_zero, List.setIfInBounds_toArray, List.set_cons_zero, List.set_cons_succ]
  refine wpAnyE_one 3 rfl (by kernel_rfl) (by rfl) (fun K hK => ?_)
  go_simp
  refine (XO.out b0 n cp bs w1.drew (HRW.out _ (B1.out.trans (HS.out.mono B1.out.size))) HL.out HB.out (by have := HK.out; omega)).mono ?_
  rintro e w2 ⟨a2, c2, rfl, own2, b2, f2⟩
  have O2 := Lib.hid own2
  have H2 : Hid (Below w1.heap.size w1 w2) := Lib.hid (HS.out.trans (b2.mono HS.out.size))
  refine hK _ _ (.inr H2.out) ?_
  clear hK K own2 b2 f2
  try simp only [Act.put, List.getElem_toArray, List.getElem_cons_succ, List.getElem_cons_zero, List.setIfInBounds_toArray, List.set_cons_zero, List.set_cons_succ]
  refine wpAnyE_one 9 rfl (by kernel_rfl) (by rfl) (fun K hK => ?_)
  go_simp
  refine (XO.out b0 k cp (bs.take k) w2 (reads_take (HRW.out _ (B1.out.trans (H2.out.mono B1.out.size))) k) HLK.out HBK.out (by have := HK.out; omega)).mono ?_
  rintro e w3 ⟨a3, c3, rfl, own3, b3, f3⟩
  have O3 := Lib.hid own3
  have H3 : Hid (Below w1.heap.size w1 w3) := Lib.hid (H2.out.trans (b3.mono H2.out.size))
  have O2' : Hid (Own w3 (.slice a2 n c2) (xorL ks z9 3 bs n)) := Lib.hid (O2.out.keeps (Keeps.of_below b3 (S := fun _ => False)) (fun _ _ h => h))
  refine hK _ _ (.inr H3.out) ?_
  clear hK K own3 b3 f3
  try simp only [Act.put, List.getElem_toArray, List.getElem_cons_succ, List.getElem_cons_zero, List.setIfInBounds_toArray, List.set_cons_zero, List.set_cons_succ]
  refine wpAnyE_one 10 rfl (by kernel_rfl) (by rfl) (fun K hK => ?_)
  go_simp
  refine hK _ _ (.inr H3.out) ?_
  clear hK K
  try simp only [Act.put, List.getElem_toArray, List.getElem_cons_succ, List.getElem_cons_zero, List.setIfInBounds_toArray, List.set_cons_zero, List.set_cons_succ]
  refine wpAnyE_one 11 rfl (by kernel_rfl) (by rfl) (fun K hK => ?_)
  go_simp
  refine hK _ _ (.inl rfl) ?_
  clear hK K
  try simp only [Act.put, List.getElem_toArray, List.getElem_cons_succ, List.getElem_cons_zero, List.setIfInBounds_toArray, List.set_cons_zero, List.set_cons_succ]
  refine wpAnyE_done (by kernel_rfl) ?_ _
  have R3 := Lib.hid (CK.out w3 H3.out)
  have B3 := Lib.hid (B1.out.trans (H3.out.mono B1.out.size))
  clear HS CK
  go_wp2_with (first
    | (refine wpList_load_row rfl 23 _ rfl w.heap.size rfl 23 (ints ks).toArray (0, 0) _ R3.out Try.underlying23 rfl sk.out ?_)
    | (go_at_call 8; refine (SO.out _).mono ?_))
  rintro e w4 ⟨a4, c4, rfl, own4, b4, f4⟩
  have O4 := Lib.hid own4
  have P2 : Hid (Own w4 (.slice a2 n c2) (xorL ks z9 3 bs n)) := Lib.hid (O2'.out.keeps (Keeps.of_below b4 (S := fun _ => False)) (fun _ _ h => h))
  have P3 : Hid (Own w4 (.slice a3 k c3) (xorL ks z9 3 (bs.take k) k)) := Lib.hid (O3.out.keeps (Keeps.of_below b4 (S := fun _ => False)) (fun _ _ h => h))
  have R4 := Lib.hid ((b4.block _ (heap_lt R3.out)).trans R3.out)
  have B4 := Lib.hid (B3.out.trans (b4.mono B3.out.size))
  clear own4 b4 f4
  go_wp2
  obtain ⟨s, hs⟩ : ∃ s, strOfNums (xorL ks z9 3 (bs.take k) k) = s := ⟨_, rfl⟩
  obtain ⟨t, ht⟩ : ∃ t, strOfNums (strL ks z9 3 k) = t := ⟨_, rfl⟩
  have HT := Lib.hid ht
  have C1 : Hid (∀ w', Below w4.heap.size w4 w' → (convert 25 9 (.slice a2 k c2)).run Try.prog w' = .ok (.string s) w') := Lib.hid (fun w' hw' => by
    rw [← hs, ← XT.out]
    exact str_ok (reads_take (P2.out.reads.1.later hw') k) (by rw [XT.out, xorL_length]))
  have C2 : Hid (∀ w', Below w4.heap.size w4 w' → (convert 25 9 (.slice a3 k c3)).run Try.prog w' = .ok (.string s) w') := Lib.hid (fun w' hw' => by
    rw [← hs]
    exact str_ok (P3.out.reads.1.later hw') (xorL_length _ _ _ _ _))
  have C3 : Hid (∀ w', Below w4.heap.size w4 w' → (convert 25 9 (.slice a4 k c4)).run Try.prog w' = .ok (.string t) w') := Lib.hid (fun w' hw' => by
    rw [← ht]
    exact str_ok (O4.out.reads.1.later hw') (strL_length _ _ _ _))
  have CK : Hid (∀ w', Below w4.heap.size w4 w' → w'.heap[w.heap.size]? = some (.cells (ints ks).toArray 23 (0, 0))) := Lib.hid (fun w' hw' => (hw'.block _ (heap_lt R4.out)).trans R4.out)
  have HS : Hid (Below w4.heap.size w4 w4.drew) := Lib.hid (Below.refl _ w4).drew
  have HC2 : Hid (n ≤ c2) := Lib.hid P2.out.cap.1
  clear ht hs
  refine wp_region_any (by kernel_rfl) (wpAny_of_E (S := fun w' => Below w4.heap.size w4 w') (e := 28) _ _ _ _ ?_)
  change wpAnyE _ _ _ _ _ _ _ _ _ (World.drew _)
  refine wpAnyE_take (i := 0) (.int .i64 0) rfl (by kernel_rfl) (by kernel_rfl) (by kernel_rfl) (by kernel_rfl) (fun _ _ _ h => h) (by rfl) (fun w' hw' => by go_simp) HS.out ?_
  simp only [Act.put, List.getElem_toArray, List.getElem_cons_succ, List.getElem_cons_zero, List.setIfInBounds_toArray, List.set_cons_zero, List.set_cons_succ]
  refine wpAnyE_take (i := 1) (.bool true) rfl (by kernel_rfl) (by kernel_rfl) (by kernel_rfl) (by kernel_rfl) (fun _ _ _ h => h) (by rfl) (fun w' hw' => by go_simp) HS.out ?_
  simp only [Act.put, List.getElem_toArray, List.getElem_cons_succ, List.getElem_cons_zero, List.setIfInBounds_toArray, List.set_cons_zero, List.set_cons_succ]
  refine wpAnyE_take (i := 2) (.bool true) rfl (by kernel_rfl) (by kernel_rfl) (by kernel_rfl) (by kernel_rfl) (fun _ _ _ h => h) (by rfl) (fun w' hw' => by go_simp) HS.out ?_
  simp only [Act.put, List.getElem_toArray, List.getElem_cons_succ, List.getElem_cons_zero, List.setIfInBounds_toArray, List.set_cons_zero, List.set_cons_succ]
  refine wpAnyE_take (i := 3) (.slice a2 n c2) rfl (by kernel_rfl) (by kernel_rfl) (by kernel_rfl) (by kernel_rfl) (fun _ _ _ h => h) (by rfl) (fun w' hw' => by go_simp) HS.out ?_
  simp only [Act.put, List.getElem_toArray, List.getElem_cons_succ, List.getElem_cons_zero, List.setIfInBounds_toArray, List.set_cons_zero, List.set_cons_succ]
  refine wpAnyE_take (i := 4) (.int .i64 n) rfl (by kernel_rfl) (by kernel_rfl) (by kernel_rfl) (by kernel_rfl) (fun _ _ _ h => h) (by rfl) (fun w' hw' => by go_simp) HS.out ?_
  simp only [Act.put, List.getElem_toArray, List.getElem_cons_succ, List.getElem_cons_zero, List.setIfInBounds_toArray, List.set_cons_zero, List.set_cons_succ]
  refine wpAnyE_take (i := 5) (.slice b0 n cp) rfl (by kernel_rfl) (by kernel_rfl) (by kernel_rfl) (by kernel_rfl) (fun _ _ _ h => h) (by rfl) (fun w' hw' => by go_simp) HS.out ?_
  simp only [Act.put, List.getElem_toArray, List.getElem_cons_succ, List.getElem_cons_zero, List.setIfInBounds_toArray, List.set_cons_zero, List.set_cons_succ]
  refine wpAnyE_take (i := 6) (.int .i64 n) rfl (by kernel_rfl) (by kernel_rfl) (by kernel_rfl) (by kernel_rfl) (fun _ _ _ h => h) (by rfl) (fun w' hw' => by go_simp) HS.out ?_
  simp only [Act.put, List.getElem_toArray, List.getElem_cons_succ, List.getElem_cons_zero, List.setIfInBounds_toArray, List.set_cons_zero, List.set_cons_succ]
  refine wpAnyE_take (i := 7) (.bool true) rfl (by kernel_rfl) (by kernel_rfl) (by kernel_rfl) (by kernel_rfl) (fun _ _ _ h => h) (by rfl) (fun w' hw' => by go_simp) HS.out ?_
  simp only [Act.put, List.getElem_toArray, List.getElem_cons_succ, List.getElem_cons_zero, List.setIfInBounds_toArray, List.set_cons_zero, List.set_cons_succ]
  refine wpAnyE_take (i := 8) (.bool true) rfl (by kernel_rfl) (by kernel_rfl) (by kernel_rfl) (by kernel_rfl) (fun _ _ _ h => h) (by rfl) (fun w' hw' => by go_simp) HS.out ?_
  simp only [Act.put, List.getElem_toArray, List.getElem_cons_succ, List.getElem_cons_zero, List.setIfInBounds_toArray, List.set_cons_zero, List.set_cons_succ]
  refine wpAnyE_take (i := 9) (.bool true) rfl (by kernel_rfl) (by kernel_rfl) (by kernel_rfl) (by kernel_rfl) (fun _ _ _ h => h) (by rfl) (fun w' hw' => by go_simp) HS.out ?_
  simp only [Act.put, List.getElem_toArray, List.getElem_cons_succ, List.getElem_cons_zero, List.setIfInBounds_toArray, List.set_cons_zero, List.set_cons_succ]
  refine wpAnyE_take (i := 10) (.slice a2 n c2) rfl (by kernel_rfl) (by kernel_rfl) (by kernel_rfl) (by kernel_rfl) (fun _ _ _ h => h) (by rfl) (fun w' hw' => by go_simp) HS.out ?_
  simp only [Act.put, List.getElem_toArray, List.getElem_cons_succ, List.getElem_cons_zero, List.setIfInBounds_toArray, List.set_cons_zero, List.set_cons_succ]
  refine wpAnyE_take (i := 11) (.int .i64 k) rfl (by kernel_rfl) (by kernel_rfl) (by kernel_rfl) (by kernel_rfl) (fun _ _ _ h => h) (by rfl) (fun w' hw' => by go_simp) HS.out ?_
  simp only [Act.put, List.getElem_toArray, List.getElem_cons_succ, List.getElem_cons_zero, List.setIfInBounds_toArray, List.set_cons_zero, List.set_cons_succ]
  refine wpAnyE_take (i := 12) (.slice a2 k c2) rfl (by kernel_rfl) (by kernel_rfl) (by kernel_rfl) (by kernel_rfl) (fun _ _ _ h => h) (by rfl) (fun w' hw' => exec_cut _ _ rfl a2 n c2 k rfl rfl (Nat.le_trans HK.out.1 HC2.out)) HS.out ?_
  simp only [Act.put, List.getElem_toArray, List.getElem_cons_succ, List.getElem_cons_zero, List.setIfInBounds_toArray, List.set_cons_zero, List.set_cons_succ]
  refine wpAnyE_take (i := 13) (.string s) rfl (by kernel_rfl) (by kernel_rfl) (by kernel_rfl) (by kernel_rfl) (fun _ _ _ h => h) (by rfl) (fun w' hw' => by have cvv := C1.out w' hw'; go_simp) HS.out ?_
  simp only [Act.put, List.getElem_toArray, List.getElem_cons_succ, List.getElem_cons_zero, List.setIfInBounds_toArray, List.set_cons_zero, List.set_cons_succ]
  refine wpAnyE_take (i := 14) (.slice a3 k c3) rfl (by kernel_rfl) (by kernel_rfl) (by kernel_rfl) (by kernel_rfl) (fun _ _ _ h => h) (by rfl) (fun w' hw' => by go_simp) HS.out ?_
  simp only [Act.put, List.getElem_toArray, List.getElem_cons_succ, List.getElem_cons_zero, List.setIfInBounds_toArray, List.set_cons_zero, List.set_cons_succ]
  refine wpAnyE_take (i := 15) (.string s) rfl (by kernel_rfl) (by kernel_rfl) (by kernel_rfl) (by kernel_rfl) (fun _ _ _ h => h) (by rfl) (fun w' hw' => by have cvv := C2.out w' hw'; go_simp) HS.out ?_
  simp only [Act.put, List.getElem_toArray, List.getElem_cons_succ, List.getElem_cons_zero, List.setIfInBounds_toArray, List.set_cons_zero, List.set_cons_succ]
  refine wpAnyE_take (i := 16) (.bool true) rfl (by kernel_rfl) (by kernel_rfl) (by kernel_rfl) (by kernel_rfl) (fun _ _ _ h => h) (by rfl) (fun w' hw' => by go_simp) HS.out ?_
  simp only [Act.put, List.getElem_toArray, List.getElem_cons_succ, List.getElem_cons_zero, List.setIfInBounds_toArray, List.set_cons_zero, List.set_cons_succ]
  refine wpAnyE_take (i := 17) (.bool true) rfl (by kernel_rfl) (by kernel_rfl) (by kernel_rfl) (by kernel_rfl) (fun _ _ _ h => h) (by rfl) (fun w' hw' => by go_simp) HS.out ?_
  simp only [Act.put, List.getElem_toArray, List.getElem_cons_succ, List.getElem_cons_zero, List.setIfInBounds_toArray, List.set_cons_zero, List.set_cons_succ]
  refine wpAnyE_take (i := 18) (.bool true) rfl (by kernel_rfl) (by kernel_rfl) (by kernel_rfl) (by kernel_rfl) (fun _ _ _ h => h) (by rfl) (fun w' hw' => by go_simp) HS.out ?_
  simp only [Act.put, List.getElem_toArray, List.getElem_cons_succ, List.getElem_cons_zero, List.setIfInBounds_toArray, List.set_cons_zero, List.set_cons_succ]
  refine wpAnyE_take (i := 19) (.slice a4 k c4) rfl (by kernel_rfl) (by kernel_rfl) (by kernel_rfl) (by kernel_rfl) (fun _ _ _ h => h) (by rfl) (fun w' hw' => by go_simp) HS.out ?_
  simp only [Act.put, List.getElem_toArray, List.getElem_cons_succ, List.getElem_cons_zero, List.setIfInBounds_toArray, List.set_cons_zero, List.set_cons_succ]
  refine wpAnyE_take (i := 20) (.string t) rfl (by kernel_rfl) (by kernel_rfl) (by kernel_rfl) (by kernel_rfl) (fun _ _ _ h => h) (by rfl) (fun w' hw' => by have cvv := C3.out w' hw'; go_simp) HS.out ?_
  simp only [Act.put, List.getElem_toArray, List.getElem_cons_succ, List.getElem_cons_zero, List.setIfInBounds_toArray, List.set_cons_zero, List.set_cons_succ]
  refine wpAnyE_take (i := 21) (.agg (ints ks).toArray) rfl (by kernel_rfl) (by kernel_rfl) (by kernel_rfl) (by kernel_rfl) (fun _ _ _ h => h) (by rfl) (fun w' hw' => exec_load_row 23 _ rfl w.heap.size rfl 23 _ (0, 0) _ (CK.out w' hw') Try.underlying23 rfl sk.out) HS.out ?_
  simp only [Act.put, List.getElem_toArray, List.getElem_cons_succ, List.getElem_cons_zero, List.setIfInBounds_toArray, List.set_cons_zero, List.set_cons_succ]
  refine wpAnyE_take (i := 22) (.agg (ints z9).toArray) rfl (by kernel_rfl) (by kernel_rfl) (by kernel_rfl) (by kernel_rfl) (fun _ _ _ h => h) (by rfl) (fun w' hw' => by go_simp; rfl) HS.out ?_
  simp only [Act.put, List.getElem_toArray, List.getElem_cons_succ, List.getElem_cons_zero, List.setIfInBounds_toArray, List.set_cons_zero, List.set_cons_succ]
  refine wpAnyE_take (i := 23) (.int .i64 k) rfl (by kernel_rfl) (by kernel_rfl) (by kernel_rfl) (by kernel_rfl) (fun _ _ _ h => h) (by rfl) (fun w' hw' => by go_simp) HS.out ?_
  simp only [Act.put, List.getElem_toArray, List.getElem_cons_succ, List.getElem_cons_zero, List.setIfInBounds_toArray, List.set_cons_zero, List.set_cons_succ]
  refine wpAnyE_one 24 rfl (by kernel_rfl) (by rfl) (fun K hK => ?_)
  go_simp
  refine (RS.out w4.drew).mono ?_
  rintro e w5 ⟨a5, c5, rfl, own5, b5, f5⟩
  have O5 := Lib.hid own5
  have H5 : Hid (Below w4.heap.size w4 w5) := Lib.hid (HS.out.trans (b5.mono HS.out.size))
  have cv5 : (convert 25 9 (.slice a5 k c5)).run Try.prog w5 = .ok (.string t) w5 := by rw [← HT.out]; exact str_ok O5.out.reads.1 (strL_length _ _ _ _)
  refine hK _ _ (.inr H5.out) ?_
  clear hK K own5 b5 f5
  try simp only [Act.put, List.getElem_toArray, List.getElem_cons_succ, List.getElem_cons_zero, List.setIfInBounds_toArray, List.set_cons_zero, List.set_cons_succ]
  refine wpAnyE_one 25 rfl (by kernel_rfl) (by rfl) (fun K hK => ?_)
  go_simp
  refine hK _ _ (.inr H5.out) ?_
  clear hK K
  try simp only [Act.put, List.getElem_toArray, List.getElem_cons_succ, List.getElem_cons_zero, List.setIfInBounds_toArray, List.set_cons_zero, List.set_cons_succ]
  refine wpAnyE_one 26 rfl (by kernel_rfl) (by rfl) (fun K hK => ?_)
  go_simp
  refine hK _ _ (.inr H5.out) ?_
  clear hK K
  try simp only [Act.put, List.getElem_toArray, List.getElem_cons_succ, List.getElem_cons_zero, List.setIfInBounds_toArray, List.set_cons_zero, List.set_cons_succ]
  refine wpAnyE_one 27 rfl (by kernel_rfl) (by rfl) (fun K hK => ?_)
  go_simp
  refine hK _ _ (.inr H5.out) ?_
  clear hK K
  try simp only [Act.put, List.getElem_toArray, List.getElem_cons_succ, List.getElem_cons_zero, List.setIfInBounds_toArray, List.set_cons_zero, List.set_cons_succ]
  refine wpAnyE_one 28 rfl (by kernel_rfl) (by rfl) (fun K hK => ?_)
  go_simp
  refine hK _ _ (.inl rfl) ?_
  clear hK K
  try simp only [Act.put, List.getElem_toArray, List.getElem_cons_succ, List.getElem_cons_zero, List.setIfInBounds_toArray, List.set_cons_zero, List.set_cons_succ]
  refine wpAnyE_done (by kernel_rfl) ?_ _
  go_wp2
  go_ret
  exact ⟨rfl, B4.out.trans (H5.out.mono B4.out.size)⟩

theorem short_walk (ks bs : List Int) (b0 : Option Addr) (n cp a : Nat) (w : World) (hk : ks.length = 32) (bk : Bytes ks) (hr : Reads w b0 bs) (hl : bs.length = n) (hb : Bytes bs) (hcp : n ≤ cp) (ha : a < 65536) :
    Calls Try.prog 6 #[.agg (ints ks).toArray, .slice b0 n cp, .int .u16 a] w fun e w' => e = .returned (.bool true) ∧ Below w.heap.size w w' := by
  by_cases h : 500 < n
  · exact short_big ks bs b0 n cp a w h
  · exact short_in ks bs b0 n cp a w hk bk hr hl hb hcp (by omega) ha
end Go.Proofs.Ytmineipjnllopaa
