/- append at a step of a region that draws its order; few and the reference's Bytes. -/
import Derived.Test.YtjpnbgimhmgooaaD6
import Derived.Deep.RegionLaw
namespace Go.Proofs.Ytjpnbgimhmgooaa
open Go.RowKit
set_option linter.unusedVariables false

/-- append(v, x...) at []byte, as a run. -/
theorem app_run {w : World} (ty : TypeId) (v : Value) (xs : List Int) (hown : Own w v xs) (ao : Option Addr) (m c : Nat) (ys : List Int) (hnone : ao = none → c = 0) (hr : Reads w ao ys) (hm : ys.length = m) (hb : xs.length + m ≤ 140737488355328) :
    ∃ a' n' c' w', (Builtin.append_ #[22, 22] ty #[v, .slice ao m c]).run Try.prog w = .ok (.slice a' n' c') w' ∧ Own w' (.slice a' n' c') (xs ++ ys) ∧ Keeps w w' (Row v) ∧ Fresh w v (.slice a' n' c') := by
  obtain ⟨i0, hi, hz0, hz1, hz2⟩ := info_parts info5
  cases ao with
  | some ad =>
    obtain ⟨v', w', hr', hown', hg, hnil, hat⟩ := run_append_own_at (P := Try.prog) w 0 22 ty 5 i0 (.int .u8 0) 1 1 Try.underlying22 hi hz0 hz1 hz2 rfl (by decide) v xs.length (ints xs) hown ad m c (ints ys) (by simp [ints, hm]) hr.news (ints_one ys) (by unfold maxLen; omega) (by omega) (Nat.zero_le _)
    have hown2 : Own w' v' (xs ++ ys) := by unfold Own; rw [ints_append, List.length_append, hm]; exact hown'
    obtain ⟨a', c', hv, _, _, hn0, _⟩ := hown2.form
    subst hv
    refine ⟨a', _, c', w', hr', hown2, Keeps.of_grown hg fun k _ e => e, ?_⟩
    intro k hk
    rcases hat with e | e
    · exact .inl (e ▸ hk)
    · rw [e] at hk; cases hk; exact .inr (Nat.le_refl _)
  | none =>
    have hy : ys = [] := hr.1 rfl
    subst hy
    have hm0 : m = 0 := by simpa using hm.symm
    subst hm0
    have hc0 := hnone rfl
    subst hc0
    have hrun := run_append_owned_none (P := Try.prog) w 0 22 ty 5 i0 1 Try.underlying22 hi v xs.length (ints xs) hown
    obtain ⟨a', c', hv, _, _, hn0, _⟩ := hown.form
    refine ⟨a', xs.length, c', w, by rw [hrun, hv], by rw [List.append_nil, ← hv]; exact hown, Keeps.refl _ _, fun k hk => .inl (by rw [hv]; exact hk)⟩

/-- append at a step of a region that draws its order. -/
theorem step_app {w : World} {ops : Array Oper} {o : Oper} {a : Act} {K : Act → World → Prop} {Q : Exit → Act → World → Prop} {E : Prop} (hgd : o.guard = none) (s x : Operand)
    (ho : o.op = .call { callee := .builtin .append, args := #[s, x], argTypes := #[22, 22] })
    (v : Value) (xs : List Int) (hs : a.eval s = v) (hown : Own w v xs) (ao : Option Addr) (m c : Nat) (ys : List Int) (hx : a.eval x = .slice ao m c) (hnone : ao = none → c = 0) (hr : Reads w ao ys) (hm : ys.length = m)
    (hb : xs.length + m ≤ 140737488355328)
    (h : ∀ a' n' c' w', Own w' (.slice a' n' c') (xs ++ ys) → Keeps w w' (Row v) → Fresh w v (.slice a' n' c') → K (a.put o.dst (.slice a' n' c')) w') :
    if Region.wanted o (yielded ops a.tmps) = true then Oper.wp Try.prog o a w K Q else E := by
  have hw : Region.wanted o (yielded ops a.tmps) = true := by simp [Region.wanted, hgd]
  rw [if_pos hw]
  obtain ⟨a', n', c', w', hrun, h1, h2, h3⟩ := app_run (w := w) o.type v xs hown ao m c ys hnone hr hm hb
  unfold Oper.wp execOp
  simp only [ho, resolve, invoke, builtin, Sem.run_bind, Sem.run_pure, Result.andThen_ok, List.map_toArray, List.map_cons, List.map_nil, hs, hx, hrun]
  exact h a' n' c' w' h1 h2 h3

/-- The element at hand. -/
theorem part_here {w : World} {a : Option Addr} {l : List Pt} {k : Nat} (h : PtsAt w a l) (hk : k < l.length) : ∃ b off q, a = some ⟨b, off, none⟩ ∧ l[k]? = some q ∧ PtAt w b (off + k * 3) q := by
  have hq : l[k]? = some l[k] := List.getElem?_eq_getElem hk
  obtain ⟨b, off, e, hp⟩ := h.2 k _ hq
  exact ⟨b, off, _, e, hq, hp⟩

def FewPost (w : World) (nl : Nat) (e : Ending) (w' : World) : Prop := ∃ r : Bool, e = .returned (.bool r) ∧ w = w' ∧ (r = true → nl ≤ 40)

set_option maxRecDepth 100000 in
set_option maxHeartbeats 4000000 in
theorem few_ok {w : World} (al : Option Addr) (nl cl : Nat) (l : List Pt) (hL : PtsAt w al l) (hll : l.length = nl) (hbig : nl ≤ 9223372036854775807) :
    Calls Try.prog 14 #[.slice al nl cl] w (FewPost w nl) := by
  have PL := Lib.hid hL
  have LL := Lib.hid hll
  clear hL hll
  go_enter Try.func14, Try.ntmps14
  go_wp2
  go_loop [3, 4] (fun t3 t4 => ∃ k m : Nat, t4 = .int .i64 k ∧ t3 = .int .i64 m ∧ k ≤ nl ∧ k ≤ 50 ∧ m ≤ 6000 * k) (fun _ i => nl - (intOf i).toNat)
  case atStart => exact ⟨0, 0, rfl, rfl, Nat.zero_le _, by omega, by omega⟩
  case round =>
    obtain ⟨k, m, rfl, rfl, hk, hk50, hm⟩ := hrel
    by_cases hlt : k < nl
    · by_cases h50 : k < 50
      · obtain ⟨bl, off, q, rfl, hq, hpa⟩ := part_here PL.out (k := k) (by rw [LL.out]; exact hlt)
        have d2 := hpa.c2
        have hqn := hpa.ok.max
        have hqc := hpa.ok.cap
        unfold maxLen at hqn
        have hqm : q.n ≤ 9223372036854775807 := by omega
        clear hpa hq hqn hqc
        by_cases h6 : 6000 < q.n
        · go_wp2
          refine ⟨⟨k + 1, m + 6000, rfl, rfl, by omega, by omega, by omega⟩, by simp [intOf]; omega⟩
        · go_wp2
          refine ⟨⟨k + 1, m + q.n, rfl, rfl, by omega, by omega, by omega⟩, by simp [intOf]; omega⟩
      · by_cases h4 : nl ≤ 40
        · omega
        · go_wp2
          go_ret
          exact ⟨false, rfl, rfl, fun h => by cases h⟩
    · by_cases h4 : nl ≤ 40
      · go_wp2
        go_ret
        exact ⟨_, rfl, rfl, fun _ => h4⟩
      · go_wp2
        go_ret
        exact ⟨false, rfl, rfl, fun h => by cases h⟩
end Go.Proofs.Ytjpnbgimhmgooaa
