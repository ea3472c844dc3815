/- ChachaBlocks: the walk. -/
import Derived.Test.YtmineipjnllopaaD1
import Derived.Deep.QuietTactic
namespace Go.Proofs.Ytmineipjnllopaa
open Go.RowKit
set_option linter.unusedVariables false

section
variable {P : Program} {ops : Array Oper} {C : World → Prop}
/-- One operation of a region in the class C of worlds, its value named. -/
theorem wpQuiet_cons {Q : Act → Prop} {a : Act} {o : Oper} {rest : List Oper} (hw : Region.wanted o (yielded ops a.tmps) = true) (v : Value) (h : ∀ w, C w → o.quietAt P a C w v) (k : wpQuiet P ops C Q rest (a.put o.dst v)) : wpQuiet P ops C Q (o :: rest) a := by
  unfold wpQuiet
  rw [if_pos hw]
  exact ⟨v, h, k⟩
theorem quiet_load_row {o : Oper} {a : Act} (ty : TypeId) (x : Operand) (ho : o.op = .load ty x) (g : Nat) (hx : a.eval x = .pointer (some ⟨g, 0, none⟩)) (t : TypeId) (cs : Array Value) (fr : Nat × Nat) (d : TypeDesc)
    (hg : ∀ w, C w → w.heap[g]? = some (.cells cs t fr)) (hu : P.underlying ty = some d) (hd : (match d with | .struct _ | .array _ _ => true | _ => false) = true) (hi : (P.info? ty).map (·.size) = some cs.size) :
    ∀ w, C w → o.quietAt P a C w (.agg cs) := fun w hw => by
  unfold Oper.quietAt execOp
  simp only [ho, hx, Instr.loadAt, Instr.sureAddr, Sem.run_bind, Sem.run_pure, Result.andThen_ok, run_loadVar_row w g t ty cs fr d (hg w hw) hu hd hi]
  exact ⟨rfl, rfl⟩
end
theorem call_b {w0 wx : World} {f : Nat} {args : Array Value} {v : Value} (h : Below w0.heap.size w0 wx) (hc : Calls Try.prog f args wx fun e w' => e = .returned v ∧ Below wx.heap.size wx w') :
    Calls Try.prog f args wx fun e w' => e = .returned v ∧ Below w0.heap.size w0 w' := by
  refine hc.mono ?_
  rintro e w' ⟨rfl, hb⟩
  exact ⟨rfl, h.trans (hb.mono h.size)⟩

set_option maxHeartbeats 400000 in
set_option maxRecDepth 100000 in
theorem blocks_walk (ks ns : List Int) (c : Int) (w : World) (hk : ks.length = 32) (hn : ns.length = 12) (bk : Bytes ks) (bn : Bytes ns) (hc : Word c) :
    Calls Try.prog 4 #[.agg (ints ks).toArray, .agg (ints ns).toArray, .int .u32 c] w fun e w' => e = .returned (.bool true) ∧ Below w.heap.size w w' := by
  have B1 := fun w => block_ok ks ns c w hk hn bk bn hc
  have B2 := fun w => rblock_ok ks ns c w hk hn bk bn hc
  have he0 := eql_same (blk ks ns c) (blk_length ks ns c)
  have i23 : (Try.prog.info? 23).map (·.size) = some (ints ks).toArray.size := by rw [size23]; simp [ints, hk]
  have i29 : (Try.prog.info? 29).map (·.size) = some (ints ns).toArray.size := by rw [size29]; simp [ints, hn]
  generalize (ints (blk ks ns c)).toArray = L at B1 B2 he0
  generalize (ints ks).toArray = K at B1 B2 i23 ⊢
  generalize (ints ns).toArray = N at B1 B2 i29 ⊢
  have H1 := Lib.hid B1
  have H2 := Lib.hid B2
  have I1 := Lib.hid i23
  have I2 := Lib.hid i29
  have hm : Try.prog.eqGuardType Try.prog.depth 32 = false := by kernel_rfl
  have e0 : ∃ w0, (w.alloc (.cells K 23)).alloc (.cells N 29) = w0 := ⟨_, rfl⟩
  clear B1 B2 hk hn bk bn hc i23 i29
  go_enter Try.func4, Try.ntmps4
  go_wp2
  obtain ⟨w0, e0⟩ := e0
  rw [e0]
  have R1 := Lib.hid (show w0.heap[w.heap.size]? = some (.cells K 23 (0, 0)) by rw [← e0]; exact (heap_old_at _ _ _ (by simp)).trans (heap_new_at _ _ _ rfl))
  have R2 := Lib.hid (show w0.heap[w.heap.size + 1]? = some (.cells N 29 (0, 0)) by rw [← e0]; exact heap_new_at _ _ _ (by simp))
  have KB := Lib.hid (show Below w.heap.size w w0 by rw [← e0]; exact ((Below.refl _ _).alloc (Nat.le_refl _) _).alloc (by simp) _)
  clear e0
  refine wp_region_quiet (C := fun w' => Below w0.heap.size w0 w') (by kernel_rfl) (by kernel_rfl) ((Below.refl _ w0).drew) ?_
  refine wpQuiet_cons (by rfl) (.bool true) (fun w' hw' => by go_simp; exact call_b hw' (awake_ok w')) ?_
  simp only [Act.put, List.setIfInBounds_toArray, List.set_cons_zero, List.set_cons_succ]
  refine wpQuiet_cons (by rfl) (.bool true) (fun w' hw' => by go_simp) ?_
  simp only [Act.put, List.setIfInBounds_toArray, List.set_cons_zero, List.set_cons_succ]
  refine wpQuiet_cons (by rfl) (.agg K) (quiet_load_row 23 _ rfl w.heap.size rfl 23 K (0, 0) _ (fun w' hw' => (hw'.block _ (heap_lt R1.out)).trans R1.out) Try.underlying23 rfl I1.out) ?_
  simp only [Act.put, List.setIfInBounds_toArray, List.set_cons_zero, List.set_cons_succ]
  refine wpQuiet_cons (by rfl) (.agg N) (quiet_load_row 29 _ rfl (w.heap.size + 1) rfl 29 N (0, 0) _ (fun w' hw' => (hw'.block _ (heap_lt R2.out)).trans R2.out) Try.underlying29 rfl I2.out) ?_
  simp only [Act.put, List.setIfInBounds_toArray, List.set_cons_zero, List.set_cons_succ]
  refine wpQuiet_cons (by rfl) (.int .u32 c) (fun w' hw' => by go_simp) ?_
  simp only [Act.put, List.setIfInBounds_toArray, List.set_cons_zero, List.set_cons_succ]
  refine wpQuiet_cons (by rfl) (.agg L) (fun w' hw' => by go_simp; exact call_b hw' (H1.out w')) ?_
  simp only [Act.put, List.setIfInBounds_toArray, List.set_cons_zero, List.set_cons_succ]
  refine wpQuiet_cons (by rfl) (.agg K) (quiet_load_row 23 _ rfl w.heap.size rfl 23 K (0, 0) _ (fun w' hw' => (hw'.block _ (heap_lt R1.out)).trans R1.out) Try.underlying23 rfl I1.out) ?_
  simp only [Act.put, List.setIfInBounds_toArray, List.set_cons_zero, List.set_cons_succ]
  refine wpQuiet_cons (by rfl) (.agg N) (quiet_load_row 29 _ rfl (w.heap.size + 1) rfl 29 N (0, 0) _ (fun w' hw' => (hw'.block _ (heap_lt R2.out)).trans R2.out) Try.underlying29 rfl I2.out) ?_
  simp only [Act.put, List.setIfInBounds_toArray, List.set_cons_zero, List.set_cons_succ]
  refine wpQuiet_cons (by rfl) (.int .u32 c) (fun w' hw' => by go_simp) ?_
  simp only [Act.put, List.setIfInBounds_toArray, List.set_cons_zero, List.set_cons_succ]
  refine wpQuiet_cons (by rfl) (.agg L) (fun w' hw' => by go_simp; exact call_b hw' (H2.out w')) ?_
  simp only [Act.put, List.setIfInBounds_toArray, List.set_cons_zero, List.set_cons_succ]
  refine wpQuiet_cons (by rfl) (.bool true) (fun w' hw' => by go_simp) ?_
  simp only [Act.put, List.setIfInBounds_toArray, List.set_cons_zero, List.set_cons_succ]
  refine wpQuiet_cons (by rfl) (.bool true) (fun w' hw' => by go_simp) ?_
  simp only [Act.put, List.setIfInBounds_toArray, List.set_cons_zero, List.set_cons_succ]
  refine wpQuiet_cons (by rfl) (.bool true) (fun w' hw' => by go_simp) ?_
  simp only [Act.put, List.setIfInBounds_toArray, List.set_cons_zero, List.set_cons_succ]
  refine wpQuiet_nil ?_
  intro w1 hw1
  have HW := Lib.hid hw1
  clear hw1
  go_wp2
  go_ret
  exact ⟨rfl, KB.out.trans (HW.out.mono KB.out.size)⟩
end Go.Proofs.Ytmineipjnllopaa
