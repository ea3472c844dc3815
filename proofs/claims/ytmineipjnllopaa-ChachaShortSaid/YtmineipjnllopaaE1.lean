/- A region's walk in a function's frame serves in a round's frame. -/
import Derived.Test.YtmineipjnllopaaD3
import Derived.RangeFuncNested
import Derived.RangeFuncBound
import Derived.RangeFuncCalls
import Derived.RangeFuncLeaves
import Derived.OwnWalkIn
import Derived.TacticsInMore
import Derived.LoopNIn
import Derived.LoopIn
import Derived.StillTailTactics
namespace Go.Proofs.Ytmineipjnllopaa
open Go.RowKit
set_option linter.unusedVariables false

section
variable {P : Program} {ops : Array Oper} {Q : Exit → Act → World → Prop} {l n : Nat}

theorem rows_round {row : String} {args : Array Value} {w : World} {R : Value → World → Prop} (h : Rows P row args w R) : RowsIn (Fence.wide.inRound l) n P row args w R := fun c cs _ => by
  obtain ⟨v, w', hR, hs⟩ := h c cs
  exact ⟨v, w', hR, stepsIn_wide.2 hs⟩

theorem op_round {o : Oper} {a : Act} {w : World} {K : Act → World → Prop} (hd : ∀ c, o.op ≠ .defer c) (h : o.wp P a w K Q) : o.wpIn (Fence.wide.inRound l) n P a w K Q := by
  refine ⟨fun _ _ => trivial, ?_⟩
  rw [Oper.semAt_plain _ _ _ hd]
  unfold Oper.wp at h
  generalize (execOp a.eval o).run P w = r at h ⊢
  cases r with
  | ok x w' =>
    cases x with
    | value v => exact h
    | skip => exact h
    | defer d => exact h
    | enter f args => exact ⟨(fun hs => nomatch hs), CallsIn.inRound l (callsIn_wide.2 h)⟩
    | row r args => exact ⟨(fun hs => nomatch hs), rows_round h⟩
    | _ => exact h.elim
  | halt x w' => cases x <;> first | exact h | exact h.elim

theorem any_round (hd : ∀ (i : Nat) (o : Oper) c, ops[i]? = some o → o.op ≠ .defer c) (hL : ¬ LetsOut Q) : ∀ (fuel : Nat) (listed : Array Bool) (a : Act) (w : World),
    wpAny P .any ops Q fuel listed a w → wpAnyIn (Fence.wide.inRound l) n P .any ops Q fuel listed a w
  | 0, _, _, _, h => h
  | fuel + 1, listed, a, w, h => ⟨h.1, fun i hi => by
      have h2 := h.2 i hi
      unfold wpOp at h2
      unfold wpOpIn
      split
      · rename_i ho
        simp only [ho] at h2
        exact any_round hd hL fuel _ a w h2
      · rename_i o ho
        simp only [ho] at h2
        split
        · rename_i hw
          simp only [hw, if_true] at h2
          rcases h2 with h2 | ⟨_, h3⟩
          · exact Oper.wpIn_mono (fun a' w' h' => any_round hd hL fuel _ a' w' h') (op_round (fun c => hd i o c ho) h2)
          · exact absurd h3 hL
        · rename_i hw
          simp only [hw] at h2
          exact ⟨fun _ _ => trivial, any_round hd hL fuel _ _ w h2⟩⟩

theorem list_round (hL : ¬ LetsOut Q) : ∀ (rest : List Oper) (a : Act) (w : World), (∀ o ∈ rest, ∀ c, o.op ≠ .defer c) →
    wpList P ops Q rest a w → wpListIn (Fence.wide.inRound l) n P ops Q rest a w
  | [], _, _, _, h => h
  | o :: rest, a, w, hr, h => by
    unfold wpListIn
    unfold wpList at h
    split
    · rename_i hw
      simp only [hw, if_true] at h
      rcases h with h | ⟨_, h3⟩
      · exact Oper.wpIn_mono (fun a' w' h' => list_round hL rest a' w' (fun o ho => hr o (by simp [ho])) h') (op_round (hr o (by simp)) h)
      · exact absurd h3 hL
    · rename_i hw
      simp only [hw] at h
      exact ⟨fun _ _ => trivial, list_round hL rest _ w (fun o ho => hr o (by simp [ho])) h⟩
end
end Go.Proofs.Ytmineipjnllopaa
