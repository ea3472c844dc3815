/- ChachaXors: the walk. -/
import Derived.Test.YtmineipjnllopaaH1
namespace Go.Proofs.Ytmineipjnllopaa
open Go.RowKit Go.Shelf
set_option linter.unusedVariables false
set_option linter.unusedSimpArgs false

set_option maxHeartbeats 4000000 in
set_option maxRecDepth 100000 in
theorem xors_walk (ks bs : List Int) (c : Int) (b0 : Option Addr) (n cp : Nat) (w : World) (hk : ks.length = 32) (bk : Bytes ks) (hc : Word c) (hr : Reads w b0 bs) (hl : bs.length = n) (hb : Bytes bs) :
    Calls Try.prog 5 #[.agg (ints ks).toArray, .int .u32 c, .slice b0 n cp] w fun e w' => e = .returned (.bool true) ∧ Below w.heap.size w w' := by
  have sk := Lib.hid (show (Try.prog.info? 23).map (·.size) = some (ints ks).toArray.size by rw [size23]; simp [ints, hk])
  obtain ⟨v, hv⟩ : ∃ v, ks.getD 2 0 = v := ⟨_, rfl⟩
  obtain ⟨N, hN⟩ : ∃ N : List Int, [0, 0, 0, 0, 0, 0, 0, 0, 0, 0, 0, v] = N := ⟨_, rfl⟩
  have nl : N.length = 12 := by subst hN; rfl
  have nb : Bytes N := by
    have hv1 : Byte v := by rw [← hv]; exact bk.at_ (by omega)
    subst hN
    intro x hx
    simp at hx
    rcases hx with rfl | rfl
    · exact ⟨by decide, by decide⟩
    · exact hv1
  have sn := Lib.hid (show (Try.prog.info? 29).map (·.size) = some (ints N).toArray.size by rw [size29]; simp [ints, nl])
  have HN : Hid (ints [0, 0, 0, 0, 0, 0, 0, 0, 0, 0, 0, v] = ints N) := Lib.hid (by rw [hN])
  have NL : Hid ((ints N).length = 12) := Lib.hid (by simp [ints, nl])
  have HV : Hid (ks.getD 2 0 = v ∧ 2 < ks.length) := Lib.hid ⟨hv, by omega⟩
  have XO := Lib.hid (fun (b0 : Option Addr) (m cp : Nat) (bs : List Int) (w : World) (hr : Reads w b0 bs) (hl : bs.length = m) (hb : Bytes bs) (hm : m ≤ 65536) => xor_row ks N bs c b0 m cp w hk nl bk nb hc hr hl hb hm)
  have RX := Lib.hid (fun (b0 : Option Addr) (m cp : Nat) (bs : List Int) (w : World) (hr : Reads w b0 bs) (hl : bs.length = m) (hb : Bytes bs) (hm : m ≤ 65536) => rxor_ok ks N bs c b0 m cp w hk nl bk nb hc hr hl hb hm)
  have HR := Lib.hid hr
  have HL := Lib.hid hl
  have HB := Lib.hid hb
  have EB : Hid (Bytes (xorL ks N c bs n)) := Lib.hid (xorL_bytes ks N c hb n (by omega))
  have TW : Hid (xorL ks N c (xorL ks N c bs n) n = bs) := Lib.hid (xorL_twice ks N c bs n hl hb)
  clear hk bk hc hr hl hb nl nb hN hv
  have i0 : (0 : Int) ≤ (n : Int) := by omega
  have e0 : ∃ w0, w.alloc (.cells (ints ks).toArray 23) = w0 := ⟨_, rfl⟩
  go_enter Try.func5, Try.ntmps5
  go_wp2_with (go_at_call 9; refine (awake_ok _).mono ?_)
  obtain ⟨w0, e0⟩ := e0
  rw [e0]
  have R1 := Lib.hid (show w0.heap[w.heap.size]? = some (.cells (ints ks).toArray 23 (0, 0)) by rw [← e0]; exact heap_new_at _ _ _ rfl)
  have KB := Lib.hid (show Below w.heap.size w w0 by rw [← e0]; exact (Below.refl _ _).alloc (Nat.le_refl _) _)
  clear e0
  rintro e w1 ⟨rfl, b1⟩
  have B1 := Lib.hid (KB.out.trans (b1.mono KB.out.size))
  have R1' := Lib.hid ((b1.block _ (heap_lt R1.out)).trans R1.out)
  clear b1 R1 KB
  by_cases hbig : n > 600
  · have hb1 : (n : Int) > 600 := by omega
    go_wp2_with (go_at_call 9; refine (awake_ok _).mono ?_)
    rintro e w2 ⟨rfl, b2⟩
    have B2 := Lib.hid (B1.out.trans (b2.mono B1.out.size))
    clear b2
    go_wp2
    go_ret
    exact ⟨rfl, B2.out⟩
  have hb1 : ¬ (n : Int) > 600 := by omega
  have hb2 : (n : Int) ≤ 600 := by omega
  have hn2 : n ≤ 65536 := by omega
  have sbs : ∃ s, strOfNums bs = s := ⟨_, rfl⟩
  obtain ⟨s, hs⟩ := sbs
  have HR1 : Hid (Reads w1 b0 bs) := Lib.hid (HR.out.later B1.out)
  have cv1 : (convert 25 9 (.slice b0 n cp)).run Try.prog w1 = .ok (.string s) w1 := by rw [← hs]; exact str_ok HR1.out HL.out
  have ck : w1.cell? ⟨w.heap.size, 2, none⟩ = some (.int .u8 v) := by
    rw [cell_of R1'.out 2, ← HV.out.1]
    have := HV.out.2
    simp [ints, List.getD, List.getElem?_eq_getElem this]
  have hlt : w.heap.size < w1.heap.size := heap_lt R1'.out
  have G1 := Lib.hid (show (w1.alloc (.cells (ints [0, 0, 0, 0, 0, 0, 0, 0, 0, 0, 0, v]).toArray 29)).heap[w.heap.size]? = some (.cells (ints ks).toArray 23 (0, 0)) from (heap_old_at w1 _ _ hlt).trans R1'.out)
  have G2 := Lib.hid (show (w1.alloc (.cells (ints [0, 0, 0, 0, 0, 0, 0, 0, 0, 0, 0, v]).toArray 29)).heap[w1.heap.size]? = some (.cells (ints N).toArray 29 (0, 0)) by rw [HN.out]; exact heap_new_at _ _ _ rfl)
  have G3 := Lib.hid (show Below w.heap.size w (w1.alloc (.cells (ints [0, 0, 0, 0, 0, 0, 0, 0, 0, 0, 0, v]).toArray 29)) from B1.out.alloc (Nat.le_of_lt hlt) _)
  clear HN NL
  go_wp2_with (first
    | (refine wpList_load_row rfl 23 _ rfl w.heap.size rfl 23 (ints ks).toArray (0, 0) _ G1.out Try.underlying23 rfl sk.out ?_)
    | (refine wpList_load_row rfl 29 _ rfl w1.heap.size rfl 29 (ints N).toArray (0, 0) _ G2.out Try.underlying29 rfl sn.out ?_)
    | (go_at_call 12; refine (XO.out b0 n cp bs _ (HR.out.later G3.out) HL.out HB.out hn2).mono ?_))
  rintro e w2 ⟨a2, c2, rfl, own2, b2, f2⟩
  have l1 : w.heap.size < (w1.alloc (.cells (ints [0, 0, 0, 0, 0, 0, 0, 0, 0, 0, 0, v]).toArray 29)).heap.size := heap_lt G1.out
  have O2 := Lib.hid own2
  have R2 := Lib.hid ((b2.block _ l1).trans G1.out)
  have N2 := Lib.hid ((b2.block _ (heap_lt G2.out)).trans G2.out)
  have B2 := Lib.hid (G3.out.trans (b2.mono G3.out.size))
  clear own2 b2 f2 G1 G2 G3 l1
  go_wp2_with (first
    | (refine wpList_load_row rfl 23 _ rfl w.heap.size rfl 23 (ints ks).toArray (0, 0) _ R2.out Try.underlying23 rfl sk.out ?_)
    | (refine wpList_load_row rfl 29 _ rfl w1.heap.size rfl 29 (ints N).toArray (0, 0) _ N2.out Try.underlying29 rfl sn.out ?_)
    | (go_at_call 12; refine (XO.out a2 n c2 (xorL ks N c bs n) _ O2.out.reads.1 (xorL_length _ _ _ _ _) EB.out hn2).mono ?_))
  rintro e w3 ⟨a3, c3, rfl, own3, b3, f3⟩
  rw [TW.out] at own3
  have O3 := Lib.hid own3
  have R3 := Lib.hid ((b3.block _ (heap_lt R2.out)).trans R2.out)
  have N3 := Lib.hid ((b3.block _ (heap_lt N2.out)).trans N2.out)
  have O2' : Hid (Own w3 (.slice a2 n c2) (xorL ks N c bs n)) := Lib.hid (O2.out.keeps (Keeps.of_below b3 (S := fun _ => False)) (fun _ _ h => h))
  have B3 := Lib.hid (B2.out.trans (b3.mono B2.out.size))
  clear own3 b3 f3
  go_wp2
  obtain ⟨t, ht⟩ : ∃ t, strOfNums (xorL ks N c bs n) = t := ⟨_, rfl⟩
  have HT := Lib.hid ht
  have HSB := Lib.hid hs
  have CE : Hid (∀ w', Below w3.heap.size w3 w' → (convert 25 9 (.slice a2 n c2)).run Try.prog w' = .ok (.string t) w') := Lib.hid (fun w' hw' => by
    rw [← ht]
    exact str_ok (O2'.out.reads.1.later hw') (xorL_length _ _ _ _ _))
  have CD : Hid (∀ w', Below w3.heap.size w3 w' → (convert 25 9 (.slice a3 n c3)).run Try.prog w' = .ok (.string s) w') := Lib.hid (fun w' hw' => by
    rw [← hs]
    exact str_ok (O3.out.reads.1.later hw') HL.out)
  have CB : Hid (∀ w', Below w3.heap.size w3 w' → (convert 25 9 (.slice b0 n cp)).run Try.prog w' = .ok (.string s) w') := Lib.hid (fun w' hw' => by
    rw [← hs]
    exact str_ok (HR.out.later (B3.out.trans (hw'.mono B3.out.size))) HL.out)
  have CK : Hid (∀ w', Below w3.heap.size w3 w' → w'.heap[w.heap.size]? = some (.cells (ints ks).toArray 23 (0, 0))) := Lib.hid (fun w' hw' => (hw'.block _ (heap_lt R3.out)).trans R3.out)
  have CN : Hid (∀ w', Below w3.heap.size w3 w' → w'.heap[w1.heap.size]? = some (.cells (ints N).toArray 29 (0, 0))) := Lib.hid (fun w' hw' => (hw'.block _ (heap_lt N3.out)).trans N3.out)
  have HS : Hid (Below w3.heap.size w3 w3.drew) := Lib.hid (Below.refl _ w3).drew
  clear ht hs cv1 ck
  refine wp_region_any (by kernel_rfl) (wpAny_of_E (S := fun w' => Below w3.heap.size w3 w') (e := 21) _ _ _ _ ?_)
  change wpAnyE _ _ _ _ _ _ _ _ _ (World.drew _)
  refine wpAnyE_take (i := 0) (.slice a2 n c2) rfl (by kernel_rfl) (by kernel_rfl) (by kernel_rfl) (by kernel_rfl) (fun _ _ _ h => h) (by rfl) (fun w' hw' => by go_simp) HS.out ?_
  simp only [Act.put, List.setIfInBounds_toArray, List.set_cons_zero, List.set_cons_succ]
  refine wpAnyE_take (i := 1) (.string t) rfl (by kernel_rfl) (by kernel_rfl) (by kernel_rfl) (by kernel_rfl) (fun _ _ _ h => h) (by rfl) (fun w' hw' => by have cvv := CE.out w' hw'; go_simp) HS.out ?_
  simp only [Act.put, List.setIfInBounds_toArray, List.set_cons_zero, List.set_cons_succ]
  refine wpAnyE_take (i := 2) (.agg (ints ks).toArray) rfl (by kernel_rfl) (by kernel_rfl) (by kernel_rfl) (by kernel_rfl) (fun _ _ _ h => h) (by rfl) (fun w' hw' => exec_load_row 23 _ rfl w.heap.size rfl 23 _ (0, 0) _ (CK.out w' hw') Try.underlying23 rfl sk.out) HS.out ?_
  simp only [Act.put, List.setIfInBounds_toArray, List.set_cons_zero, List.set_cons_succ]
  refine wpAnyE_take (i := 3) (.agg (ints N).toArray) rfl (by kernel_rfl) (by kernel_rfl) (by kernel_rfl) (by kernel_rfl) (fun _ _ _ h => h) (by rfl) (fun w' hw' => exec_load_row 29 _ rfl w1.heap.size rfl 29 _ (0, 0) _ (CN.out w' hw') Try.underlying29 rfl sn.out) HS.out ?_
  simp only [Act.put, List.setIfInBounds_toArray, List.set_cons_zero, List.set_cons_succ]
  refine wpAnyE_take (i := 4) (.int .u32 c) rfl (by kernel_rfl) (by kernel_rfl) (by kernel_rfl) (by kernel_rfl) (fun _ _ _ h => h) (by rfl) (fun w' hw' => by go_simp) HS.out ?_
  simp only [Act.put, List.setIfInBounds_toArray, List.set_cons_zero, List.set_cons_succ]
  refine wpAnyE_take (i := 5) (.slice b0 n cp) rfl (by kernel_rfl) (by kernel_rfl) (by kernel_rfl) (by kernel_rfl) (fun _ _ _ h => h) (by rfl) (fun w' hw' => by go_simp) HS.out ?_
  simp only [Act.put, List.setIfInBounds_toArray, List.set_cons_zero, List.set_cons_succ]
  refine wpAnyE_one 6 rfl (by kernel_rfl) (by rfl) (fun K hK => ?_)
  go_simp
  refine (RX.out b0 n cp bs w3.drew (HR.out.later (B3.out.trans (HS.out.mono B3.out.size))) HL.out HB.out hn2).mono ?_
  rintro e w4 ⟨a4, c4, rfl, own4, b4, f4⟩
  have O4 := Lib.hid own4
  have H4 : Hid (Below w3.heap.size w3 w4) := Lib.hid (HS.out.trans (b4.mono HS.out.size))
  have cv4 : (convert 25 9 (.slice a4 n c4)).run Try.prog w4 = .ok (.string t) w4 := by rw [← HT.out]; exact str_ok O4.out.reads.1 (xorL_length _ _ _ _ _)
  refine hK _ _ (.inr H4.out) ?_
  clear hK K own4 b4 f4
  try simp only [Act.put, List.setIfInBounds_toArray, List.set_cons_zero, List.set_cons_succ]
  refine wpAnyE_one 7 rfl (by kernel_rfl) (by rfl) (fun K hK => ?_)
  go_simp
  refine hK _ _ (.inr H4.out) ?_
  clear hK K
  try simp only [Act.put, List.setIfInBounds_toArray, List.set_cons_zero, List.set_cons_succ]
  refine wpAnyE_one 8 rfl (by kernel_rfl) (by rfl) (fun K hK => ?_)
  go_simp
  refine hK _ _ (.inr H4.out) ?_
  clear hK K
  try simp only [Act.put, List.setIfInBounds_toArray, List.set_cons_zero, List.set_cons_succ]
  refine wpAnyE_one 9 rfl (by kernel_rfl) (by rfl) (fun K hK => ?_)
  go_simp
  refine hK _ _ (.inr H4.out) ?_
  clear hK K
  try simp only [Act.put, List.setIfInBounds_toArray, List.set_cons_zero, List.set_cons_succ]
  refine wpAnyE_take (i := 10) (.slice a3 n c3) rfl (by kernel_rfl) (by kernel_rfl) (by kernel_rfl) (by kernel_rfl) (fun _ _ _ h => h) (by rfl) (fun w' hw' => by go_simp) H4.out ?_
  simp only [Act.put, List.setIfInBounds_toArray, List.set_cons_zero, List.set_cons_succ]
  refine wpAnyE_take (i := 11) (.string s) rfl (by kernel_rfl) (by kernel_rfl) (by kernel_rfl) (by kernel_rfl) (fun _ _ _ h => h) (by rfl) (fun w' hw' => by have cvv := CD.out w' hw'; go_simp) H4.out ?_
  simp only [Act.put, List.setIfInBounds_toArray, List.set_cons_zero, List.set_cons_succ]
  refine wpAnyE_take (i := 12) (.string s) rfl (by kernel_rfl) (by kernel_rfl) (by kernel_rfl) (by kernel_rfl) (fun _ _ _ h => h) (by rfl) (fun w' hw' => by go_simp) H4.out ?_
  simp only [Act.put, List.setIfInBounds_toArray, List.set_cons_zero, List.set_cons_succ]
  refine wpAnyE_one 13 rfl (by kernel_rfl) (by rfl) (fun K hK => ?_)
  go_simp
  refine hK _ _ (.inr H4.out) ?_
  clear hK K
  try simp only [Act.put, List.setIfInBounds_toArray, List.set_cons_zero, List.set_cons_succ]
  refine wpAnyE_one 14 rfl (by kernel_rfl) (by rfl) (fun K hK => ?_)
  go_simp
  refine hK _ _ (.inr H4.out) ?_
  clear hK K
  try simp only [Act.put, List.setIfInBounds_toArray, List.set_cons_zero, List.set_cons_succ]
  refine wpAnyE_one 15 rfl (by kernel_rfl) (by rfl) (fun K hK => ?_)
  go_simp
  refine hK _ _ (.inr H4.out) ?_
  clear hK K
  try simp only [Act.put, List.setIfInBounds_toArray, List.set_cons_zero, List.set_cons_succ]
  refine wpAnyE_take (i := 16) (.slice b0 n cp) rfl (by kernel_rfl) (by kernel_rfl) (by kernel_rfl) (by kernel_rfl) (fun _ _ _ h => h) (by rfl) (fun w' hw' => by go_simp) H4.out ?_
  simp only [Act.put, List.setIfInBounds_toArray, List.set_cons_zero, List.set_cons_succ]
  refine wpAnyE_take (i := 17) (.string s) rfl (by kernel_rfl) (by kernel_rfl) (by kernel_rfl) (by kernel_rfl) (fun _ _ _ h => h) (by rfl) (fun w' hw' => by have cvv := CB.out w' hw'; go_simp) H4.out ?_
  simp only [Act.put, List.setIfInBounds_toArray, List.set_cons_zero, List.set_cons_succ]
  refine wpAnyE_take (i := 18) (.string s) rfl (by kernel_rfl) (by kernel_rfl) (by kernel_rfl) (by kernel_rfl) (fun _ _ _ h => h) (by rfl) (fun w' hw' => by go_simp) H4.out ?_
  simp only [Act.put, List.setIfInBounds_toArray, List.set_cons_zero, List.set_cons_succ]
  refine wpAnyE_one 19 rfl (by kernel_rfl) (by rfl) (fun K hK => ?_)
  go_simp
  refine hK _ _ (.inr H4.out) ?_
  clear hK K
  try simp only [Act.put, List.setIfInBounds_toArray, List.set_cons_zero, List.set_cons_succ]
  refine wpAnyE_one 20 rfl (by kernel_rfl) (by rfl) (fun K hK => ?_)
  go_simp
  refine hK _ _ (.inr H4.out) ?_
  clear hK K
  try simp only [Act.put, List.setIfInBounds_toArray, List.set_cons_zero, List.set_cons_succ]
  refine wpAnyE_one 21 rfl (by kernel_rfl) (by rfl) (fun K hK => ?_)
  go_simp
  refine hK _ _ (.inl rfl) ?_
  clear hK K
  try simp only [Act.put, List.setIfInBounds_toArray, List.set_cons_zero, List.set_cons_succ]
  refine wpAnyE_done (by kernel_rfl) ?_ _
  go_wp2
  go_ret
  exact ⟨rfl, B3.out.trans (H4.out.mono B3.out.size)⟩
end Go.Proofs.Ytmineipjnllopaa
