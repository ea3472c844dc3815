/- slices.Delete of one letter. -/
import Derived.Test.YtalhpicnepofaaaB3
namespace Go.Proofs.Ytalhpicnepofaaa
open Go.RowKit
set_option linter.unusedVariables false
set_option linter.unusedSimpArgs false

/-- A row of n letters, with room for c. -/
def RowAt (w : World) (g n c : Nat) (l : List Lt) : Prop :=
  ∃ cur, w.heap[g]? = some (.cells cur 27 (0, 0)) ∧ n ≤ c ∧ c ≤ maxLen ∧ cur.size = c * 3 ∧ cur.toList.take (n * 3) = flat l ∧ l.length = n

theorem RowAt.of {w : World} {v : Value} {l : List Lt} (h : w.ownsRow 0 27 3 v l.length (flat l)) (hp : 0 < l.length) : ∃ g c, v = .slice (some ⟨g, 0, none⟩) l.length c ∧ RowAt w g l.length c l := by
  rcases h.2 with ⟨_, h0⟩ | ⟨g, cap, cur, hv, _, hg, hn, hm, hs, ht⟩
  · omega
  · exact ⟨g, cap, hv, cur, hg, hn, hm, hs, ht, rfl⟩
theorem RowAt.owns {w : World} {g n c : Nat} {l : List Lt} (h : RowAt w g n c l) : w.ownsRow 0 27 3 (.slice (some ⟨g, 0, none⟩) n c) l.length (flat l) := by
  obtain ⟨cur, hg, hn, hm, hs, ht, hl⟩ := h
  subst hl
  exact ⟨flat_length l, .inr ⟨g, c, cur, rfl, Nat.zero_le _, hg, hn, hm, hs, ht⟩⟩
theorem RowAt.drew {w : World} {g n c : Nat} {l : List Lt} (h : RowAt w g n c l) : RowAt w.drew g n c l := h

theorem elem34 : Try.prog.underlying 34 = some (.slice (Try.prog.elem 34)) := Try.underlying34
theorem elem34' : Try.prog.elem 34 = 27 := rfl
theorem sizeOf27 (w : World) : Sem.run Try.prog (Go.sizeOf 27) w = .ok 3 w := by
  obtain ⟨i0, hi, hz0, hz1, hz2⟩ := info_parts info27
  simp [Go.sizeOf, typeInfo, hi, hz1]

theorem cut_upto (g n c : Nat) (k : Nat) (hk : k ≤ c) (w : World) : (Instr.slice 34 (.slice (some ⟨g, 0, none⟩) n c) none (some (.int .i64 (k : Int))) none).run Try.prog w = .ok (.slice (some ⟨g, 0, none⟩) k c) w := by
  rw [run_slice_h (P := Try.prog) w 34 _ n c elem34 .i64 (k : Int) (by omega) (by omega), elem34', sizeOf27]
  simp [Result.andThen, sliced, Addr.add]

theorem cut_from (g n c j : Nat) (hj : j ≤ n) (w : World) : (Instr.slice 34 (.slice (some ⟨g, 0, none⟩) n c) (some (.int .i64 (j : Int))) none none).run Try.prog w = .ok (.slice (some (if c = j then ⟨g, 0, none⟩ else ⟨g, j * 3, none⟩)) (n - j) (c - j)) w := by
  rw [run_slice_l (P := Try.prog) w 34 _ n c elem34 .i64 (j : Int) (by omega) (by omega), elem34', sizeOf27]
  simp only [Result.andThen, sliced, Int.toNat_natCast]
  by_cases h : c = j
  · simp [h]
  · simp [h, Addr.add_lit]

theorem cut_mid (g n c lo hi : Nat) (h1 : lo ≤ hi) (h2 : hi ≤ c) (h3 : lo < c) (w : World) : (Instr.slice 34 (.slice (some ⟨g, 0, none⟩) n c) (some (.int .i64 (lo : Int))) (some (.int .i64 (hi : Int))) none).run Try.prog w = .ok (.slice (some ⟨g, lo * 3, none⟩) (hi - lo) (c - lo)) w := by
  rw [run_slice_lh (P := Try.prog) w 34 _ n c elem34 .i64 .i64 (lo : Int) (hi : Int) (by omega) (by omega) (by omega), elem34', sizeOf27]
  simp [Result.andThen, sliced, Addr.add_lit, show ¬ c = lo by omega]

theorem flat_cons (q : Lt) (l : List Lt) : flat (q :: l) = q.vals ++ flat l := by simp [flat]
theorem flat_take : ∀ (l : List Lt) (k : Nat), flat (l.take k) = (flat l).take (k * 3)
  | [], k => by simp [flat]
  | q :: l, 0 => by simp [flat]
  | q :: l, k + 1 => by
    rw [List.take_succ_cons, flat_cons, flat_cons, flat_take l k, show (k + 1) * 3 = q.vals.length + k * 3 by simp [Lt.vals]; omega, List.take_length_add_append]
theorem flat_drop : ∀ (l : List Lt) (k : Nat), flat (l.drop k) = (flat l).drop (k * 3)
  | [], k => by simp [flat]
  | q :: l, 0 => by simp
  | q :: l, k + 1 => by
    rw [List.drop_succ_cons, flat_cons, flat_drop l k, show (k + 1) * 3 = q.vals.length + k * 3 by simp [Lt.vals]; omega, List.drop_length_add_append]

theorem flat_one_all (l : List Lt) : ∀ u ∈ flat l, u.oneCell' = true := by
  intro u hu
  obtain ⟨q, _, hq⟩ := List.mem_flatMap.1 hu
  exact vals_one q u hq

/-- append(s[:k], s[k+1:]...) within the row. -/
theorem del_run {w : World} (ty : TypeId) {g n c k : Nat} {l : List Lt} (h : RowAt w g n c l) (hk : k < n) (hn : n ≤ 1000) :
    ∃ w', (Builtin.append_ #[34, 34] ty #[.slice (some ⟨g, 0, none⟩) k c, .slice (some (if c = k + 1 then ⟨g, 0, none⟩ else ⟨g, (k + 1) * 3, none⟩)) (n - (k + 1)) (c - (k + 1))]).run Try.prog w = .ok (.slice (some ⟨g, 0, none⟩) (n - 1) c) w' ∧
      RowAt w' g (n - 1) c (l.eraseIdx k) ∧ Keeps w w' (fun i => i = g) := by
  obtain ⟨cur, hg, hnc, hcm, hcs, htake, hl⟩ := h
  obtain ⟨i0, hi, hz0, hz1, hz2⟩ := info_parts info27
  have hlen : (flat (l.drop (k + 1))).length = (n - (k + 1)) * i0.size := by rw [hz1, flat_length, List.length_drop, hl]
  have hnews : ∀ j u, (flat (l.drop (k + 1)))[j]? = some u → w.cell? ((if c = k + 1 then (⟨g, 0, none⟩ : Addr) else ⟨g, (k + 1) * 3, none⟩).add j) = some u := by
    intro j u hu
    have hj : j < (n - (k + 1)) * 3 := by
      have := (List.getElem?_eq_some_iff.1 hu).1
      rw [flat_length, List.length_drop, hl] at this
      exact this
    have hne : ¬ c = k + 1 := by omega
    rw [if_neg hne, Addr.add_lit, cell_of hg]
    rw [flat_drop, List.getElem?_drop, ← htake, List.getElem?_take, if_pos (by omega)] at hu
    simpa using hu
  have hr := run_append_room (P := Try.prog) w 34 ty 27 i0 Try.underlying34 hi g k c cur hg _ (n - (k + 1)) (c - (k + 1)) (flat (l.drop (k + 1))) hlen hnews (flat_one_all _) (by omega) (by rw [hz1, flat_length, List.length_drop, hl, hcs]; omega)
  refine ⟨_, by rw [hr]; congr 2; omega, ⟨_, setRow_heap w g cur _ 27 _ hg, by omega, hcm, ?_, ?_, ?_⟩, ⟨rfl, rfl, rfl, by simp [World.setRow], fun i _ hi => setRow_other w g i _ hi⟩⟩
  · simp only [List.size_toArray, List.length_append, List.length_take, List.length_drop, Array.length_toList, hz1]
    rw [flat_length, List.length_drop, hl, hcs]
    omega
  · rw [hz1]
    have e1 : cur.toList.take (k * 3) = flat (l.take k) := by rw [flat_take, ← htake, List.take_take]; congr 1; omega
    simp only []
    rw [e1, List.eraseIdx_eq_take_drop_succ, flat_append]
    have e2 : (flat (l.take k) ++ flat (l.drop (k + 1))).length = (n - 1) * 3 := by
      rw [List.length_append, flat_length, flat_length, List.length_take, List.length_drop, hl]; omega
    rw [← e2]
    exact List.take_left
  · rw [List.length_eraseIdx, if_pos (by omega), hl]

theorem step_del {w : World} {ops : Array Oper} {o : Oper} {a : Act} {K : Act → World → Prop} {Q : Exit → Act → World → Prop} {E : Prop} (hgd : o.guard = none) (s x : Operand)
    (ho : o.op = .call { callee := .builtin .append, args := #[s, x], argTypes := #[34, 34] })
    {g n c k : Nat} {l : List Lt} (hrow : RowAt w g n c l) (hk : k < n) (hn : n ≤ 1000) (hs : a.eval s = .slice (some ⟨g, 0, none⟩) k c) (v2 : Value) (hv : v2 = .slice (some (if c = k + 1 then ⟨g, 0, none⟩ else ⟨g, (k + 1) * 3, none⟩)) (n - (k + 1)) (c - (k + 1))) (hx : a.eval x = v2)
    (h : ∀ w', RowAt w' g (n - 1) c (l.eraseIdx k) → Keeps w w' (fun i => i = g) → K (a.put o.dst (.slice (some ⟨g, 0, none⟩) (n - 1) c)) w') :
    if Region.wanted o (yielded ops a.tmps) = true then Oper.wp Try.prog o a w K Q else E := by
  have hw : Region.wanted o (yielded ops a.tmps) = true := by simp [Region.wanted, hgd]
  rw [if_pos hw]
  obtain ⟨w', hrun, h1, h2⟩ := del_run (w := w) o.type hrow hk hn
  subst hv
  unfold Oper.wp execOp
  simp only [ho, resolve, invoke, builtin, Sem.run_bind, Sem.run_pure, Result.andThen_ok, List.map_toArray, List.map_cons, List.map_nil, hs, hx, hrun]
  exact h w' h1 h2

/-- clear of one letter behind the row's end. -/
theorem clear_run {w : World} (ty : TypeId) {g n c cc : Nat} {l : List Lt} (h : RowAt w g n c l) (hn : n < c) :
    ∃ w', (Builtin.clear_ #[34] ty #[.slice (some ⟨g, n * 3, none⟩) 1 cc]).run Try.prog w = .ok (.tuple #[]) w' ∧ RowAt w' g n c l ∧ Keeps w w' (fun i => i = g) := by
  obtain ⟨cur, hg, hnc, hcm, hcs, htake, hl⟩ := h
  obtain ⟨i0, hi, hz0, hz1, hz2⟩ := info_parts info27
  have hst := run_storeCells_at Try.prog g (n * 3) 27 [.int .i64 0, .int .i64 0, .slice none 0 0] 0 cur w hg (by simp; omega) (by intro v hv; simp at hv; rcases hv with rfl | rfl <;> rfl)
  simp only [Nat.add_zero] at hst
  refine ⟨_, ?_, ⟨(cur.toList.take (n * 3) ++ ([.int .i64 0, .int .i64 0, .slice none 0 0] : List Value) ++ cur.toList.drop (n * 3 + 3)).toArray, setRow_heap w g cur _ 27 _ hg, hnc, hcm, ?_, ?_, hl⟩, ⟨rfl, rfl, rfl, by simp [World.setRow], fun i _ hi => setRow_other w g i _ hi⟩⟩
  · have hz : (zeroValue 27).run Try.prog w = .ok (.agg #[.int .i64 0, .int .i64 0, .slice none 0 0]) w := by
      simp [zeroValue, typeInfo, hi, hz0]
    have hzc : (Builtin.zeroCells (Value.agg #[.int .i64 0, .int .i64 0, .slice none 0 0]).cells 1).toList = [.int .i64 0, .int .i64 0, .slice none 0 0] := by simp [Builtin.zeroCells, Value.cells]; rfl
    simp [Builtin.clear_, run_underlying Try.underlying34, hz, hzc, hst, Result.andThen]
  · simp only [List.size_toArray, List.length_append, List.length_take, List.length_drop, Array.length_toList]
    simp
    omega
  · simp only []
    rw [List.append_assoc, List.take_append_of_le_length (by simp; omega), List.take_take, Nat.min_self, htake]
end Go.Proofs.Ytalhpicnepofaaa
