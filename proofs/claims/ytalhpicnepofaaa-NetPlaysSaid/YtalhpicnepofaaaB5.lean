/- The contract of slices.Delete at []Letter, one letter taken out. -/
import Derived.Test.YtalhpicnepofaaaB4
namespace Go.Proofs.Ytalhpicnepofaaa
open Go.RowKit
set_option linter.unusedVariables false
set_option linter.unusedSimpArgs false

theorem clear_law {w : World} {ops : Array Oper} {rest : List Oper} {o : Oper} {a : Act} {Q : Exit → Act → World → Prop} (hgd : o.guard = none) (x : Operand)
    (ho : o.op = .call { callee := .builtin .clear, args := #[x], argTypes := #[34] }) {g n c cc : Nat} {l : List Lt} (hrow : RowAt w g n c l) (hn : n < c) (hx : a.eval x = .slice (some ⟨g, n * 3, none⟩) 1 cc)
    (h : ∀ w', RowAt w' g n c l → Keeps w w' (fun i => i = g) → wpList Try.prog ops Q rest (a.put o.dst (.tuple #[])) w') : wpList Try.prog ops Q (o :: rest) a w := by
  refine wpList_plain hgd fun K hK => ?_
  obtain ⟨w', hrun, h1, h2⟩ := clear_run (w := w) (cc := cc) o.type hrow hn
  have h' := hK _ _ (h w' h1 h2)
  unfold Oper.wp execOp
  simp only [ho, resolve, invoke, builtin, Sem.run_bind, Sem.run_pure, Result.andThen_ok, List.map_toArray, List.map_cons, List.map_nil, hx, hrun]
  exact h'

def DelPost (w : World) (g m c : Nat) (l : List Lt) (e : Ending) (w' : World) : Prop := e = .returned (.slice (some ⟨g, 0, none⟩) m c) ∧ RowAt w' g m c l ∧ Keeps w w' (fun i => i = g)

set_option maxRecDepth 100000 in
set_option maxHeartbeats 2000000 in
theorem delete_ok {w : World} {g m c k : Nat} {l : List Lt} (h : RowAt w g (m + 1) c l) (hk : k < m + 1) (hm : m + 1 ≤ 1000) :
    Calls Try.prog 24 #[.slice (some ⟨g, 0, none⟩) (m + 1) c, .int .i64 k, .int .i64 ((k : Int) + 1)] w (DelPost w g m c (l.eraseIdx k)) := by
  have R := Lib.hid h
  obtain ⟨hmc, hcb⟩ : m + 1 ≤ c ∧ c ≤ 9223372036854775807 := by obtain ⟨_, _, h1, h2, _⟩ := h; unfold maxLen at h2; exact ⟨h1, by omega⟩
  clear h
  have hkk : ((k : Int) == (k : Int) + 1) = false := by simp; omega
  have s1 : ∀ w', (Instr.slice 34 (.slice (some ⟨g, 0, none⟩) (m + 1) c) none (some (.int .i64 (k : Int))) none).run Try.prog w' = .ok (.slice (some ⟨g, 0, none⟩) k c) w' := cut_upto g (m + 1) c k (by omega)
  obtain ⟨v2, hv2⟩ : ∃ v2 : Value, v2 = .slice (some (if c = k + 1 then ⟨g, 0, none⟩ else ⟨g, (k + 1) * 3, none⟩)) (m + 1 - (k + 1)) (c - (k + 1)) := ⟨_, rfl⟩
  have s2 : ∀ w', (Instr.slice 34 (.slice (some ⟨g, 0, none⟩) (m + 1) c) (some (.int .i64 ((k : Int) + 1))) none none).run Try.prog w' = .ok v2 w' := by
    intro w'
    rw [hv2]
    exact cut_from g (m + 1) c (k + 1) (by omega) w'
  have s3 : ∀ w', (Instr.slice 34 (.slice (some ⟨g, 0, none⟩) m c) (some (.int .i64 (m : Int))) (some (.int .i64 ((m : Int) + 1))) none).run Try.prog w' = .ok (.slice (some ⟨g, m * 3, none⟩) 1 (c - m)) w' := by
    intro w'
    have := cut_mid g m c m (m + 1) (by omega) hmc (by omega) w'
    rw [show m + 1 - m = 1 by omega] at this
    exact this
  have V2 := Lib.hid hv2
  clear hv2
  go_enter Try.func24, Try.ntmps24
  go_wp2
  go_region_law (first | (refine step_del rfl _ _ rfl R.out.drew hk hm rfl v2 V2.out rfl ?_; intro w1 hr1 hk1))
  all_goals
    try simp [Act.put, Act.eval]
    have R1 : Hid (RowAt w1 g m c (l.eraseIdx k)) := Lib.hid hr1
    have K1 := Lib.hid hk1
    clear hr1 hk1
    go_wp2_with (refine clear_law rfl _ rfl R1.out (by omega) rfl ?_)
    intro w2 hr2 hk2
    have R2 := Lib.hid hr2
    have K2 := Lib.hid hk2
    clear hr2 hk2
    go_wp2
    go_ret
    exact ⟨rfl, R2.out, ((Keeps.drew w _).trans K1.out (fun _ _ h => h)).trans K2.out (fun _ _ h => h)⟩
end Go.Proofs.Ytalhpicnepofaaa
