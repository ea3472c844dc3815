/- Stream. -/
import Derived.Test.YtmineipjnllopaaE9
namespace Go.Proofs.Ytmineipjnllopaa
open Go.RowKit Go.Shelf
set_option linter.unusedVariables false
set_option linter.unusedSimpArgs false

/-- The stream's first m bytes. -/
def strL (ks ns : List Int) (c : Int) : Nat → List Int
  | 0 => []
  | m + 1 => strL ks ns c m ++ [sb ks ns c m]
theorem strL_length (ks ns : List Int) (c : Int) : ∀ m, (strL ks ns c m).length = m
  | 0 => rfl
  | m + 1 => by simp [strL, strL_length ks ns c m]
theorem xr_zero {y : Int} (hy : 0 ≤ y) : xr 0 y = y := by
  unfold xr
  simp
  omega
theorem xorL_zero (ks ns : List Int) (c : Int) (n : Nat) : ∀ m, xorL ks ns c (List.replicate n 0) m = strL ks ns c m
  | 0 => rfl
  | m + 1 => by
    have e : (List.replicate n (0 : Int)).getD m 0 = 0 := by
      by_cases h : m < n <;> simp [List.getD, List.getElem?_replicate, h]
    simp only [xorL, strL, xorL_zero ks ns c n m, e, xr_zero (sb_byte ks ns c m).1]

theorem exec_load_row {P : Program} {o : Oper} {a : Act} {w : World} (ty : TypeId) (x : Operand) (ho : o.op = .load ty x) (g : Nat) (hx : a.eval x = .pointer (some ⟨g, 0, none⟩)) (t : TypeId) (cs : Array Value) (fr : Nat × Nat) (d : TypeDesc)
    (hg : w.heap[g]? = some (.cells cs t fr)) (hu : P.underlying ty = some d) (hd : (match d with | .struct _ | .array _ _ => true | _ => false) = true) (hi : (P.info? ty).map (·.size) = some cs.size) :
    (execOp a.eval o).run P w = .ok (.value (.agg cs)) w := by
  unfold execOp
  simp only [ho, hx, Instr.loadAt, Instr.sureAddr, Sem.run_bind, Sem.run_pure, Result.andThen_ok, run_loadVar_row w g t ty cs fr d hg hu hd hi]

/-- make([]byte, n). -/
theorem wp_make {o : Oper} {a : Act} {w : World} {K : Act → World → Prop} {Q : Exit → Act → World → Prop} (l : Operand) (ho : o.op = .makeSlice 25 l l) (n : Nat) (hl : a.eval l = .int .i64 n) (hn : n ≤ 65536)
    (h : ∀ w', Own w' (.slice (some ⟨w.heap.size, 0, none⟩) n n) (List.replicate n 0) → Below w.heap.size w w' → K (a.put o.dst (.slice (some ⟨w.heap.size, 0, none⟩) n n)) w') : o.wp Try.prog a w K Q := by
  obtain ⟨i0, hi, hz0, hz1, hz2⟩ := info_parts info5
  obtain ⟨w', hrun, r1, r2⟩ := run_make_full (P := Try.prog) w 0 25 5 i0 (.int .u8 0) 1 Try.underlying25 hi hz0 hz1 .i64 .i64 n (by rw [hz2]; omega) (by unfold maxLen; omega) (Nat.zero_le _)
  unfold Oper.wp
  simp [execOp, ho, hl, hrun, Result.andThen]
  refine h w' ?_ ((Keeps.of_grown r2 (S := fun _ => False) (fun _ _ h => by cases h)).below (fun _ _ h => h))
  have e : (madeCells (Value.int IntKind.u8 0).cells (n * 1)).toList = ints (List.replicate n 0) := by
    rw [Nat.mul_one]
    show (madeCells #[Value.int IntKind.u8 0] n).toList = _
    rw [toList_madeCells_one]
    simp [ints]
  rw [e] at r1
  unfold Own
  rw [List.length_replicate]
  exact r1

def StreamAt (w : World) (xs : List Int) (e : Ending) (w' : World) : Prop :=
  ∃ a' n' c', e = .returned (.tuple #[.slice a' n' c', .int .i64 0]) ∧ Own w' (.slice a' n' c') xs ∧ Below w.heap.size w w' ∧ ∀ k, (Value.slice a' n' c').ownBlock = some k → w.heap.size ≤ k

set_option maxHeartbeats 4000000 in
set_option maxRecDepth 100000 in
theorem stream_ok (ks ns : List Int) (c : Int) (n : Nat) (w : World) (hk : ks.length = 32) (hn : ns.length = 12) (bk : Bytes ks) (bn : Bytes ns) (hc : Word c) (hn2 : n ≤ 65536) :
    Calls Try.prog 8 #[.agg (ints ks).toArray, .agg (ints ns).toArray, .int .u32 c, .int .i64 n] w (StreamAt w (strL ks ns c n)) := by
  have hn0 : (0 : Int) ≤ (n : Int) := by omega
  have hn3 : (n : Int) ≤ 65536 := by omega
  have sk := Lib.hid (show (Try.prog.info? 23).map (·.size) = some (ints ks).toArray.size by rw [size23]; simp [ints, hk])
  have sn := Lib.hid (show (Try.prog.info? 29).map (·.size) = some (ints ns).toArray.size by rw [size29]; simp [ints, hn])
  have XO := Lib.hid (fun (b0 : Option Addr) (m cp : Nat) (bs : List Int) (w : World) (hr : Reads w b0 bs) (hl : bs.length = m) (hb : Bytes bs) (hm : m ≤ 65536) => xor_ok ks ns bs c b0 m cp w hk hn bk bn hc hr hl hb hm)
  clear hk hn bk bn hc
  have e0 : ∃ w0, (w.alloc (.cells (ints ks).toArray 23)).alloc (.cells (ints ns).toArray 29) = w0 := ⟨_, rfl⟩
  go_enter Try.func8, Try.ntmps8
  go_wp2
  obtain ⟨w0, e0⟩ := e0
  rw [e0]
  have R1 := Lib.hid (show w0.heap[w.heap.size]? = some (.cells (ints ks).toArray 23 (0, 0)) by rw [← e0]; exact (heap_old_at _ _ _ (by simp)).trans (heap_new_at _ _ _ rfl))
  have R2 := Lib.hid (show w0.heap[w.heap.size + 1]? = some (.cells (ints ns).toArray 29 (0, 0)) by rw [← e0]; exact heap_new_at _ _ _ (by simp))
  have KB := Lib.hid (show Below w.heap.size w w0 by rw [← e0]; exact ((Below.refl _ _).alloc (Nat.le_refl _) _).alloc (by simp) _)
  clear e0
  refine wp_region_any (by kernel_rfl) (wpAny_of_E (S := fun w' => w'.heap[w.heap.size]? = some (.cells (ints ks).toArray 23 (0, 0)) ∧ w'.heap[w.heap.size + 1]? = some (.cells (ints ns).toArray 29 (0, 0))) (e := 7) _ _ _ _ ?_)
  change wpAnyE _ _ _ _ _ _ _ _ _ (World.drew _)
  have HS : Hid (w0.drew.heap[w.heap.size]? = some (.cells (ints ks).toArray 23 (0, 0)) ∧ w0.drew.heap[w.heap.size + 1]? = some (.cells (ints ns).toArray 29 (0, 0))) := Lib.hid ⟨R1.out, R2.out⟩
  refine wpAnyE_take (i := 0) (.agg (ints ks).toArray) rfl (by kernel_rfl) (by kernel_rfl) (by kernel_rfl) (by kernel_rfl) (fun _ _ _ h => h) (by rfl) (fun w' hw' => exec_load_row 23 _ rfl w.heap.size rfl 23 _ (0, 0) _ hw'.1 Try.underlying23 rfl sk.out) HS.out ?_
  simp only [Act.put, List.setIfInBounds_toArray, List.set_cons_zero, List.set_cons_succ]
  refine wpAnyE_take (i := 1) (.agg (ints ns).toArray) rfl (by kernel_rfl) (by kernel_rfl) (by kernel_rfl) (by kernel_rfl) (fun _ _ _ h => h) (by rfl) (fun w' hw' => exec_load_row 29 _ rfl (w.heap.size + 1) rfl 29 _ (0, 0) _ hw'.2 Try.underlying29 rfl sn.out) HS.out ?_
  simp only [Act.put, List.setIfInBounds_toArray, List.set_cons_zero, List.set_cons_succ]
  refine wpAnyE_take (i := 2) (.int .u32 c) rfl (by kernel_rfl) (by kernel_rfl) (by kernel_rfl) (by kernel_rfl) (fun _ _ _ h => h) (by rfl) (fun w' hw' => by go_simp) HS.out ?_
  simp only [Act.put, List.setIfInBounds_toArray, List.set_cons_zero, List.set_cons_succ]
  refine wpAnyE_take (i := 3) (.int .i64 n) rfl (by kernel_rfl) (by kernel_rfl) (by kernel_rfl) (by kernel_rfl) (fun _ _ _ h => h) (by rfl) (fun w' hw' => by go_simp) HS.out ?_
  simp only [Act.put, List.setIfInBounds_toArray, List.set_cons_zero, List.set_cons_succ]
  refine wpAnyE_one 4 rfl (by kernel_rfl) (by rfl) (fun K hK => ?_)
  refine wp_make _ rfl n rfl hn2 ?_
  intro w2 own2 b2
  have O2 := Lib.hid own2
  have B2 := Lib.hid b2
  refine hK _ _ (.inr ⟨(b2.block _ (heap_lt HS.out.1)).trans HS.out.1, (b2.block _ (heap_lt HS.out.2)).trans HS.out.2⟩) ?_
  clear hK K own2 b2
  try simp only [Act.put, List.setIfInBounds_toArray, List.set_cons_zero, List.set_cons_succ]
  refine wpAnyE_one 5 rfl (by kernel_rfl) (by rfl) (fun K hK => ?_)
  go_simp
  refine (XO.out _ n n (List.replicate n 0) w2 O2.out.reads.1 (by simp) (z_bytes n) hn2).mono ?_
  rintro e w3 ⟨a', n', c', rfl, own3, b3, f3⟩
  have O3 := Lib.hid own3
  have B3 := Lib.hid b3
  have F3 := Lib.hid f3
  have h1 := (B2.out.block _ (heap_lt HS.out.1)).trans HS.out.1
  have h2 := (B2.out.block _ (heap_lt HS.out.2)).trans HS.out.2
  have HS3 : Hid (w3.heap[w.heap.size]? = some (.cells (ints ks).toArray 23 (0, 0)) ∧ w3.heap[w.heap.size + 1]? = some (.cells (ints ns).toArray 29 (0, 0))) := Lib.hid ⟨(b3.block _ (heap_lt h1)).trans h1, (b3.block _ (heap_lt h2)).trans h2⟩
  refine hK _ _ (.inr HS3.out) ?_
  clear hK K own3 b3 f3 h1 h2
  try simp only [Act.put, List.setIfInBounds_toArray, List.set_cons_zero, List.set_cons_succ]
  refine wpAnyE_one 6 rfl (by kernel_rfl) (by rfl) (fun K hK => ?_)
  go_simp
  refine hK _ _ (.inr HS3.out) ?_
  clear hK K
  try simp only [Act.put, List.setIfInBounds_toArray, List.set_cons_zero, List.set_cons_succ]
  refine wpAnyE_one 7 rfl (by kernel_rfl) (by rfl) (fun K hK => ?_)
  go_simp
  refine hK _ _ (.inl rfl) ?_
  clear hK K
  try simp only [Act.put, List.setIfInBounds_toArray, List.set_cons_zero, List.set_cons_succ]
  refine wpAnyE_done (by kernel_rfl) ?_ _
  go_wp2
  go_ret2
  have hw := KB.out.size
  refine ⟨a', n', c', rfl, by have := O3.out; rw [xorL_zero] at this; exact this, ?_, fun k hk => ?_⟩
  · have t1 : Below w.heap.size w w0.drew := KB.out.trans ((Below.refl _ w0).drew)
    exact (t1.trans (B2.out.mono t1.size)).trans (B3.out.mono (Nat.le_trans t1.size B2.out.size))
  · have := F3.out k hk
    have := B2.out.size
    have h3 : w0.drew.heap.size = w0.heap.size := rfl
    omega

set_option maxHeartbeats 4000000 in
set_option maxRecDepth 100000 in
theorem stream_bad (K N : Array Value) (c n : Int) (w : World) (hn : n < 0 ∨ 65536 < n) :
    Calls Try.prog 8 #[.agg K, .agg N, .int .u32 c, .int .i64 n] w fun e w' => e = .returned (.tuple #[.slice none 0 0, .int .i64 1]) ∧ Below w.heap.size w w' := by
  by_cases h0 : n < 0
  · clear hn
    go_enter Try.func8, Try.ntmps8
    go_wp2
    go_ret2
    exact ⟨rfl, ((Below.refl _ _).alloc (Nat.le_refl _) _).alloc (by simp) _⟩
  · have h1 : 65536 < n := by omega
    have h2 : 0 ≤ n := by omega
    clear hn h0
    go_enter Try.func8, Try.ntmps8
    go_wp2
    go_ret2
    exact ⟨rfl, ((Below.refl _ _).alloc (Nat.le_refl _) _).alloc (by simp) _⟩
end Go.Proofs.Ytmineipjnllopaa
