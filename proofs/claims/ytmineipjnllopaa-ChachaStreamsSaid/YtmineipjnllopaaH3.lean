/- ChachaStreams: the walk. -/
import Derived.Test.YtmineipjnllopaaH1
namespace Go.Proofs.Ytmineipjnllopaa
open Go.RowKit Go.Shelf
set_option linter.unusedVariables false
set_option linter.unusedSimpArgs false

/-- The contracts under names: the walk's simp would take them apart. -/
def AwakeAt (w : World) (e : Ending) (w' : World) : Prop := e = .returned (.bool true) ∧ Below w.heap.size w w'
theorem awake_at (w : World) : Calls Try.prog 9 #[] w (AwakeAt w) := awake_ok w
def StreamRowAt (w : World) (n : Nat) (xs : List Int) (e : Ending) (w' : World) : Prop :=
  ∃ a' c', e = .returned (.tuple #[.slice a' n c', .int .i64 0]) ∧ Own w' (.slice a' n c') xs ∧ Below w.heap.size w w' ∧ ∀ k, (Value.slice a' n c').ownBlock = some k → w.heap.size ≤ k
theorem stream_at (ks ns : List Int) (c : Int) (n : Nat) (w : World) (hk : ks.length = 32) (hn : ns.length = 12) (bk : Bytes ks) (bn : Bytes ns) (hc : Word c) (hn2 : n ≤ 65536) :
    Calls Try.prog 8 #[.agg (ints ks).toArray, .agg (ints ns).toArray, .int .u32 c, .int .i64 n] w (StreamRowAt w n (strL ks ns c n)) := stream_row ks ns c n w hk hn bk bn hc hn2
def StreamBadAt (w : World) (e : Ending) (w' : World) : Prop := e = .returned (.tuple #[.slice none 0 0, .int .i64 1]) ∧ Below w.heap.size w w'
theorem streambad_at (K N : Array Value) (c n : Int) (w : World) (hn : n < 0 ∨ 65536 < n) :
    Calls Try.prog 8 #[.agg K, .agg N, .int .u32 c, .int .i64 n] w (StreamBadAt w) := stream_bad K N c n w hn

set_option maxHeartbeats 4000000 in
set_option maxRecDepth 100000 in
/-- A number in reach: streams are asked for. -/
theorem streams_in (ks : List Int) (c : Int) (n : Nat) (w : World) (hk : ks.length = 32) (bk : Bytes ks) (hc : Word c) (hn : n ≤ 700) :
    Calls Try.prog 7 #[.agg (ints ks).toArray, .int .u32 c, .int .i64 n] w fun e w' => e = .returned (.bool true) ∧ Below w.heap.size w w' := by
  have sk := Lib.hid (show (Try.prog.info? 23).map (·.size) = some (ints ks).toArray.size by rw [size23]; simp [ints, hk])
  obtain ⟨v, hv⟩ : ∃ v, ks.getD 0 0 = v := ⟨_, rfl⟩
  obtain ⟨v', hv'⟩ : ∃ v, ks.getD 1 0 = v := ⟨_, rfl⟩
  obtain ⟨N, hN⟩ : ∃ N : List Int, [v, v', 5, 0, 0, 0, 0, 0, 0, 0, 0, 0] = N := ⟨_, rfl⟩
  have nl : N.length = 12 := by subst hN; rfl
  have nb : Bytes N := by
    have hv1 : Byte v := by rw [← hv]; exact bk.at_ (by omega)
    have hv2 : Byte v' := by rw [← hv']; exact bk.at_ (by omega)
    subst hN
    intro x hx
    simp at hx
    rcases hx with rfl | rfl | rfl | rfl
    · exact hv1
    · exact hv2
    · exact ⟨by decide, by decide⟩
    · exact ⟨by decide, by decide⟩
  have sn := Lib.hid (show (Try.prog.info? 29).map (·.size) = some (ints N).toArray.size by rw [size29]; simp [ints, nl])
  have HN : Hid (ints [v, v', 5, 0, 0, 0, 0, 0, 0, 0, 0, 0] = ints N) := Lib.hid (by rw [hN])
  have HV : Hid (ks.getD 0 0 = v ∧ ks.getD 1 0 = v' ∧ 2 < ks.length) := Lib.hid ⟨hv, hv', by omega⟩
  have hn2 : n ≤ 65536 := by omega
  have SO := Lib.hid (fun (w : World) => stream_at ks N c n w hk nl bk nb hc hn2)
  have RS := Lib.hid (fun (w : World) => rstream_ok ks N c n w hk nl bk nb hc hn2)
  clear hk bk hc nl nb hN hv hv'
  have i0 : (0 : Int) ≤ (n : Int) := by omega
  have i1 : (n : Int) ≤ 700 := by omega
  have i2 : ¬ (n : Int) > 700 := by omega
  have i3 : ¬ (n : Int) < 0 := by omega
  have i4 : ¬ (n : Int) > 65536 := by omega
  have e0 : ∃ w0, w.alloc (.cells (ints ks).toArray 23) = w0 := ⟨_, rfl⟩
  go_enter Try.func7, Try.ntmps7
  go_wp2_with (go_at_call 9; refine (awake_at _).mono ?_)
  obtain ⟨w0, e0⟩ := e0
  rw [e0]
  have R1 := Lib.hid (show w0.heap[w.heap.size]? = some (.cells (ints ks).toArray 23 (0, 0)) by rw [← e0]; exact heap_new_at _ _ _ rfl)
  have KB := Lib.hid (show Below w.heap.size w w0 by rw [← e0]; exact (Below.refl _ _).alloc (Nat.le_refl _) _)
  clear e0
  rintro e w1 ⟨rfl, b1⟩
  have B1 := Lib.hid (KB.out.trans (b1.mono KB.out.size))
  have R1' := Lib.hid ((b1.block _ (heap_lt R1.out)).trans R1.out)
  clear b1 R1 KB
  have ck : w1.cell? ⟨w.heap.size, 0, none⟩ = some (.int .u8 v) := by
    rw [cell_of R1'.out 0, ← HV.out.1]
    have := HV.out.2.2
    simp [ints, List.getD, List.getElem?_eq_getElem (show 0 < ks.length by omega)]
  have ck' : w1.cell? ⟨w.heap.size, 1, none⟩ = some (.int .u8 v') := by
    rw [cell_of R1'.out 1, ← HV.out.2.1]
    have := HV.out.2.2
    simp [ints, List.getD, List.getElem?_eq_getElem (show 1 < ks.length by omega)]
  have hlt : w.heap.size < w1.heap.size := heap_lt R1'.out
  have G1 := Lib.hid (show (w1.alloc (.cells (ints [v, v', 5, 0, 0, 0, 0, 0, 0, 0, 0, 0]).toArray 29)).heap[w.heap.size]? = some (.cells (ints ks).toArray 23 (0, 0)) from (heap_old_at w1 _ _ hlt).trans R1'.out)
  have G2 := Lib.hid (show (w1.alloc (.cells (ints [v, v', 5, 0, 0, 0, 0, 0, 0, 0, 0, 0]).toArray 29)).heap[w1.heap.size]? = some (.cells (ints N).toArray 29 (0, 0)) by rw [HN.out]; exact heap_new_at _ _ _ rfl)
  have G3 := Lib.hid (show Below w.heap.size w (w1.alloc (.cells (ints [v, v', 5, 0, 0, 0, 0, 0, 0, 0, 0, 0]).toArray 29)) from B1.out.alloc (Nat.le_of_lt hlt) _)
  clear HN
  go_wp2_with (first
    | (refine wpList_load_row rfl 23 _ rfl w.heap.size rfl 23 (ints ks).toArray (0, 0) _ G1.out Try.underlying23 rfl sk.out ?_)
    | (refine wpList_load_row rfl 29 _ rfl w1.heap.size rfl 29 (ints N).toArray (0, 0) _ G2.out Try.underlying29 rfl sn.out ?_)
    | (go_at_call 8; refine (SO.out _).mono ?_))
  rintro e w2 ⟨a2, c2, rfl, own2, b2, f2⟩
  have O2 := Lib.hid own2
  have l1 : w.heap.size < (w1.alloc (.cells (ints [v, v', 5, 0, 0, 0, 0, 0, 0, 0, 0, 0]).toArray 29)).heap.size := heap_lt G1.out
  have R3 := Lib.hid ((b2.block _ l1).trans G1.out)
  have N3 := Lib.hid ((b2.block _ (heap_lt G2.out)).trans G2.out)
  have B3 := Lib.hid (G3.out.trans (b2.mono G3.out.size))
  clear own2 b2 f2 G1 G2 G3 l1 ck ck'
  go_wp2
  obtain ⟨t, ht⟩ : ∃ t, strOfNums (strL ks N c n) = t := ⟨_, rfl⟩
  have HT := Lib.hid ht
  have CE : Hid (∀ w', Below w2.heap.size w2 w' → (convert 25 9 (.slice a2 n c2)).run Try.prog w' = .ok (.string t) w') := Lib.hid (fun w' hw' => by
    rw [← ht]
    exact str_ok (O2.out.reads.1.later hw') (strL_length _ _ _ _))
  have CK : Hid (∀ w', Below w2.heap.size w2 w' → w'.heap[w.heap.size]? = some (.cells (ints ks).toArray 23 (0, 0))) := Lib.hid (fun w' hw' => (hw'.block _ (heap_lt R3.out)).trans R3.out)
  have CN : Hid (∀ w', Below w2.heap.size w2 w' → w'.heap[w1.heap.size]? = some (.cells (ints N).toArray 29 (0, 0))) := Lib.hid (fun w' hw' => (hw'.block _ (heap_lt N3.out)).trans N3.out)
  have HS : Hid (Below w2.heap.size w2 w2.drew) := Lib.hid (Below.refl _ w2).drew
  clear ht
  refine wp_region_any (by kernel_rfl) (wpAny_of_E (S := fun w' => Below w2.heap.size w2 w') (e := 13) _ _ _ _ ?_)
  change wpAnyE _ _ _ _ _ _ _ _ _ (World.drew _)
  refine wpAnyE_take (i := 0) (.int .i64 0) rfl (by kernel_rfl) (by kernel_rfl) (by kernel_rfl) (by kernel_rfl) (fun _ _ _ h => h) (by rfl) (fun w' hw' => by go_simp) HS.out ?_
  simp only [Act.put, List.getElem_toArray, List.getElem_cons_succ, List.getElem_cons_zero, List.setIfInBounds_toArray, List.set_cons_zero, List.set_cons_succ]
  refine wpAnyE_take (i := 1) (.bool true) rfl (by kernel_rfl) (by kernel_rfl) (by kernel_rfl) (by kernel_rfl) (fun _ _ _ h => h) (by rfl) (fun w' hw' => by go_simp) HS.out ?_
  simp only [Act.put, List.getElem_toArray, List.getElem_cons_succ, List.getElem_cons_zero, List.setIfInBounds_toArray, List.set_cons_zero, List.set_cons_succ]
  refine wpAnyE_take (i := 2) (.bool true) rfl (by kernel_rfl) (by kernel_rfl) (by kernel_rfl) (by kernel_rfl) (fun _ _ _ h => h) (by rfl) (fun w' hw' => by go_simp) HS.out ?_
  simp only [Act.put, List.getElem_toArray, List.getElem_cons_succ, List.getElem_cons_zero, List.setIfInBounds_toArray, List.set_cons_zero, List.set_cons_succ]
  refine wpAnyE_take (i := 3) (.slice a2 n c2) rfl (by kernel_rfl) (by kernel_rfl) (by kernel_rfl) (by kernel_rfl) (fun _ _ _ h => h) (by rfl) (fun w' hw' => by go_simp) HS.out ?_
  simp only [Act.put, List.getElem_toArray, List.getElem_cons_succ, List.getElem_cons_zero, List.setIfInBounds_toArray, List.set_cons_zero, List.set_cons_succ]
  refine wpAnyE_take (i := 4) (.string t) rfl (by kernel_rfl) (by kernel_rfl) (by kernel_rfl) (by kernel_rfl) (fun _ _ _ h => h) (by rfl) (fun w' hw' => by have cvv := CE.out w' hw'; go_simp) HS.out ?_
  simp only [Act.put, List.getElem_toArray, List.getElem_cons_succ, List.getElem_cons_zero, List.setIfInBounds_toArray, List.set_cons_zero, List.set_cons_succ]
  refine wpAnyE_take (i := 5) (.agg (ints ks).toArray) rfl (by kernel_rfl) (by kernel_rfl) (by kernel_rfl) (by kernel_rfl) (fun _ _ _ h => h) (by rfl) (fun w' hw' => exec_load_row 23 _ rfl w.heap.size rfl 23 _ (0, 0) _ (CK.out w' hw') Try.underlying23 rfl sk.out) HS.out ?_
  simp only [Act.put, List.getElem_toArray, List.getElem_cons_succ, List.getElem_cons_zero, List.setIfInBounds_toArray, List.set_cons_zero, List.set_cons_succ]
  refine wpAnyE_take (i := 6) (.agg (ints N).toArray) rfl (by kernel_rfl) (by kernel_rfl) (by kernel_rfl) (by kernel_rfl) (fun _ _ _ h => h) (by rfl) (fun w' hw' => exec_load_row 29 _ rfl w1.heap.size rfl 29 _ (0, 0) _ (CN.out w' hw') Try.underlying29 rfl sn.out) HS.out ?_
  simp only [Act.put, List.getElem_toArray, List.getElem_cons_succ, List.getElem_cons_zero, List.setIfInBounds_toArray, List.set_cons_zero, List.set_cons_succ]
  refine wpAnyE_take (i := 7) (.int .u32 c) rfl (by kernel_rfl) (by kernel_rfl) (by kernel_rfl) (by kernel_rfl) (fun _ _ _ h => h) (by rfl) (fun w' hw' => by go_simp) HS.out ?_
  simp only [Act.put, List.getElem_toArray, List.getElem_cons_succ, List.getElem_cons_zero, List.setIfInBounds_toArray, List.set_cons_zero, List.set_cons_succ]
  refine wpAnyE_take (i := 8) (.int .i64 n) rfl (by kernel_rfl) (by kernel_rfl) (by kernel_rfl) (by kernel_rfl) (fun _ _ _ h => h) (by rfl) (fun w' hw' => by go_simp) HS.out ?_
  simp only [Act.put, List.getElem_toArray, List.getElem_cons_succ, List.getElem_cons_zero, List.setIfInBounds_toArray, List.set_cons_zero, List.set_cons_succ]
  refine wpAnyE_one 9 rfl (by kernel_rfl) (by rfl) (fun K hK => ?_)
  go_simp
  refine (RS.out w2.drew).mono ?_
  rintro e w4 ⟨a4, c4, rfl, own4, b4, f4⟩
  have O4 := Lib.hid own4
  have H4 : Hid (Below w2.heap.size w2 w4) := Lib.hid (HS.out.trans (b4.mono HS.out.size))
  have cv4 : (convert 25 9 (.slice a4 n c4)).run Try.prog w4 = .ok (.string t) w4 := by rw [← HT.out]; exact str_ok O4.out.reads.1 (strL_length _ _ _ _)
  refine hK _ _ (.inr H4.out) ?_
  clear hK K own4 b4 f4
  try simp only [Act.put, List.setIfInBounds_toArray, List.set_cons_zero, List.set_cons_succ]
  refine wpAnyE_one 10 rfl (by kernel_rfl) (by rfl) (fun K hK => ?_)
  go_simp
  refine hK _ _ (.inr H4.out) ?_
  clear hK K
  try simp only [Act.put, List.getElem_toArray, List.getElem_cons_succ, List.getElem_cons_zero, List.setIfInBounds_toArray, List.set_cons_zero, List.set_cons_succ]
  refine wpAnyE_one 11 rfl (by kernel_rfl) (by rfl) (fun K hK => ?_)
  go_simp
  refine hK _ _ (.inr H4.out) ?_
  clear hK K
  try simp only [Act.put, List.getElem_toArray, List.getElem_cons_succ, List.getElem_cons_zero, List.setIfInBounds_toArray, List.set_cons_zero, List.set_cons_succ]
  refine wpAnyE_one 12 rfl (by kernel_rfl) (by rfl) (fun K hK => ?_)
  go_simp
  refine hK _ _ (.inr H4.out) ?_
  clear hK K
  try simp only [Act.put, List.getElem_toArray, List.getElem_cons_succ, List.getElem_cons_zero, List.setIfInBounds_toArray, List.set_cons_zero, List.set_cons_succ]
  refine wpAnyE_one 13 rfl (by kernel_rfl) (by rfl) (fun K hK => ?_)
  go_simp
  refine hK _ _ (.inl rfl) ?_
  clear hK K
  try simp only [Act.put, List.getElem_toArray, List.getElem_cons_succ, List.getElem_cons_zero, List.setIfInBounds_toArray, List.set_cons_zero, List.set_cons_succ]
  refine wpAnyE_done (by kernel_rfl) ?_ _
  go_wp2
  go_ret
  exact ⟨rfl, B3.out.trans (H4.out.mono B3.out.size)⟩

set_option maxHeartbeats 4000000 in
set_option maxRecDepth 100000 in
/-- A number out of reach: a refusal. -/
theorem streams_out (ks : List Int) (c z : Int) (w : World) (hk : ks.length = 32) (bk : Bytes ks) (hc : Word c) (hz : z < 0 ∨ 65536 < z) :
    Calls Try.prog 7 #[.agg (ints ks).toArray, .int .u32 c, .int .i64 z] w fun e w' => e = .returned (.bool true) ∧ Below w.heap.size w w' := by
  have sk := Lib.hid (show (Try.prog.info? 23).map (·.size) = some (ints ks).toArray.size by rw [size23]; simp [ints, hk])
  obtain ⟨v, hv⟩ : ∃ v, ks.getD 0 0 = v := ⟨_, rfl⟩
  obtain ⟨v', hv'⟩ : ∃ v, ks.getD 1 0 = v := ⟨_, rfl⟩
  obtain ⟨N, hN⟩ : ∃ N : List Int, [v, v', 5, 0, 0, 0, 0, 0, 0, 0, 0, 0] = N := ⟨_, rfl⟩
  have nl : N.length = 12 := by subst hN; rfl
  have sn := Lib.hid (show (Try.prog.info? 29).map (·.size) = some (ints N).toArray.size by rw [size29]; simp [ints, nl])
  have HN : Hid (ints [v, v', 5, 0, 0, 0, 0, 0, 0, 0, 0, 0] = ints N) := Lib.hid (by rw [hN])
  have HV : Hid (ks.getD 0 0 = v ∧ ks.getD 1 0 = v' ∧ 2 < ks.length) := Lib.hid ⟨hv, hv', by omega⟩
  have SO := Lib.hid (fun (w : World) => streambad_at (ints ks).toArray (ints N).toArray c z w hz)
  have i1 : ¬ (z > 700 ∧ z ≤ 65536) := by omega
  have e0 : ∃ w0, w.alloc (.cells (ints ks).toArray 23) = w0 := ⟨_, rfl⟩
  have HZ := Lib.hid hz
  clear hk bk hc nl hN hv hv' hz i1
  go_enter Try.func7, Try.ntmps7
  go_wp2_with (go_at_call 9; refine (awake_at _).mono ?_)
  obtain ⟨w0, e0⟩ := e0
  rw [e0]
  have R1 := Lib.hid (show w0.heap[w.heap.size]? = some (.cells (ints ks).toArray 23 (0, 0)) by rw [← e0]; exact heap_new_at _ _ _ rfl)
  have KB := Lib.hid (show Below w.heap.size w w0 by rw [← e0]; exact (Below.refl _ _).alloc (Nat.le_refl _) _)
  clear e0
  rintro e w1 ⟨rfl, b1⟩
  have B1 := Lib.hid (KB.out.trans (b1.mono KB.out.size))
  have R1' := Lib.hid ((b1.block _ (heap_lt R1.out)).trans R1.out)
  clear b1 R1 KB
  have ck : w1.cell? ⟨w.heap.size, 0, none⟩ = some (.int .u8 v) := by
    rw [cell_of R1'.out 0, ← HV.out.1]
    have := HV.out.2.2
    simp [ints, List.getD, List.getElem?_eq_getElem (show 0 < ks.length by omega)]
  have ck' : w1.cell? ⟨w.heap.size, 1, none⟩ = some (.int .u8 v') := by
    rw [cell_of R1'.out 1, ← HV.out.2.1]
    have := HV.out.2.2
    simp [ints, List.getD, List.getElem?_eq_getElem (show 1 < ks.length by omega)]
  have hlt : w.heap.size < w1.heap.size := heap_lt R1'.out
  have G1 := Lib.hid (show (w1.alloc (.cells (ints [v, v', 5, 0, 0, 0, 0, 0, 0, 0, 0, 0]).toArray 29)).heap[w.heap.size]? = some (.cells (ints ks).toArray 23 (0, 0)) from (heap_old_at w1 _ _ hlt).trans R1'.out)
  have G2 := Lib.hid (show (w1.alloc (.cells (ints [v, v', 5, 0, 0, 0, 0, 0, 0, 0, 0, 0]).toArray 29)).heap[w1.heap.size]? = some (.cells (ints N).toArray 29 (0, 0)) by rw [HN.out]; exact heap_new_at _ _ _ rfl)
  have G3 := Lib.hid (show Below w.heap.size w (w1.alloc (.cells (ints [v, v', 5, 0, 0, 0, 0, 0, 0, 0, 0, 0]).toArray 29)) from B1.out.alloc (Nat.le_of_lt hlt) _)
  clear HN
  by_cases hneg : z < 0
  · have j1 : ¬ (z > 700) := by omega
    go_wp2_with (first
      | (refine wpList_load_row rfl 23 _ rfl w.heap.size rfl 23 (ints ks).toArray (0, 0) _ G1.out Try.underlying23 rfl sk.out ?_)
      | (refine wpList_load_row rfl 29 _ rfl w1.heap.size rfl 29 (ints N).toArray (0, 0) _ G2.out Try.underlying29 rfl sn.out ?_)
      | (go_at_call 8; refine (SO.out _).mono ?_))
    rintro e w2 ⟨rfl, b2⟩
    have B2 := Lib.hid (G3.out.trans (b2.mono G3.out.size))
    clear b2
    go_wp2
    go_ret
    exact ⟨rfl, B2.out⟩
  · have j1 : z > 700 := by have := HZ.out; omega
    have j2 : ¬ (z ≤ 65536) := by have := HZ.out; omega
    have j3 : z > 65536 := by have := HZ.out; omega
    go_wp2_with (first
      | (refine wpList_load_row rfl 23 _ rfl w.heap.size rfl 23 (ints ks).toArray (0, 0) _ G1.out Try.underlying23 rfl sk.out ?_)
      | (refine wpList_load_row rfl 29 _ rfl w1.heap.size rfl 29 (ints N).toArray (0, 0) _ G2.out Try.underlying29 rfl sn.out ?_)
      | (go_at_call 8; refine (SO.out _).mono ?_))
    rintro e w2 ⟨rfl, b2⟩
    have B2 := Lib.hid (G3.out.trans (b2.mono G3.out.size))
    clear b2
    go_wp2
    go_ret
    exact ⟨rfl, B2.out⟩

set_option maxHeartbeats 4000000 in
set_option maxRecDepth 100000 in
/-- A number in between: the law asks for nothing. -/
theorem streams_mid (ks : List Int) (c z : Int) (w : World) (hk : ks.length = 32) (bk : Bytes ks) (hc : Word c) (hz : 700 < z) (hz' : z ≤ 65536) :
    Calls Try.prog 7 #[.agg (ints ks).toArray, .int .u32 c, .int .i64 z] w fun e w' => e = .returned (.bool true) ∧ Below w.heap.size w w' := by
  clear hk bk hc
  have hz2 : z > 700 := hz
  go_enter Try.func7, Try.ntmps7
  go_wp2_with (go_at_call 9; refine (awake_at _).mono ?_)
  rintro e w1 ⟨rfl, b1⟩
  have B1 := Lib.hid (((Below.refl w.heap.size w).alloc (Nat.le_refl _) (.cells (ints ks).toArray 23)).trans (b1.mono (by simp)))
  clear b1
  go_wp2_with (go_at_call 9; refine (awake_at _).mono ?_)
  rintro e w2 ⟨rfl, b2⟩
  have B2 := Lib.hid (B1.out.trans (b2.mono B1.out.size))
  clear b2
  go_wp2
  go_ret
  exact ⟨rfl, B2.out⟩

theorem streams_walk (ks : List Int) (c z : Int) (w : World) (hk : ks.length = 32) (bk : Bytes ks) (hc : Word c) :
    Calls Try.prog 7 #[.agg (ints ks).toArray, .int .u32 c, .int .i64 z] w fun e w' => e = .returned (.bool true) ∧ Below w.heap.size w w' := by
  by_cases h1 : z < 0 ∨ 65536 < z
  · exact streams_out ks c z w hk bk hc h1
  · by_cases h2 : 700 < z
    · exact streams_mid ks c z w hk bk hc h2 (by omega)
    · obtain ⟨n, rfl⟩ := Int.eq_ofNat_of_zero_le (show 0 ≤ z by omega)
      exact streams_in ks c n w hk bk hc (by omega)

end Go.Proofs.Ytmineipjnllopaa
