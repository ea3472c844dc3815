/- An argument that is an array of bytes. -/
import Derived.Test.YtmineipjnllopaaD2
import Derived.OpenShut
import Derived.ChangeOld
namespace Go.Proofs.Ytmineipjnllopaa
open Go.RowKit
set_option linter.unusedVariables false

theorem cells5 : Try.prog.cellsOf 5 = 1 := by kernel_rfl

theorem ints_of_cells : ∀ (cs : List Value), (∀ i, i < cs.length → ∃ b, Byte b ∧ cs[i]? = some (.int .u8 b)) → ∃ ks : List Int, cs = ints ks ∧ Bytes ks
  | [], _ => ⟨[], rfl, fun b hb => by cases hb⟩
  | c :: cs, h => by
    obtain ⟨b, hb, e⟩ := h 0 (by simp)
    obtain ⟨ks, rfl, hk⟩ := ints_of_cells cs (fun i hi => by simpa using h (i + 1) (by simpa using hi))
    simp only [List.getElem?_cons_zero, Option.some.injEq] at e
    subst e
    exact ⟨b :: ks, rfl, fun x hx => by
      rcases List.mem_cons.1 hx with rfl | h'
      · exact hb
      · exact hk x h'⟩

theorem open_arr {H : Type} {enc : TypeId × Value → H} {W : World} {base b0 : Nat} {sp : Nat → Bool} {held : Bool} {r : Reach} {t : TypeId} {n : Nat} {v : Value} {d : DataW H} {p : List MemPlace}
    (ht : Try.prog.underlying t = some (.array n 5)) (hc : Try.prog.cellsOf t = n) (hval : Value.okWide Try.prog W r base t v) (h : DataW.Trod enc Try.prog W b0 sp held t v d p) :
    ∃ ks : List Int, v = .agg (ints ks).toArray ∧ ks.length = n ∧ Bytes ks := by
  have hv : ∃ cs, v = .agg cs ∧ cs.size = Try.prog.cellsOf t := by
    unfold Value.okWide at hval
    rw [ht] at hval
    obtain ⟨cs, rfl, h2, _⟩ := hval
    exact ⟨cs, rfl, h2⟩
  obtain ⟨cs, rfl, hs⟩ := hv
  obtain ⟨fuel, hf⟩ := h
  obtain ⟨xs, m, _, _, hl, hn, hx⟩ := DataW.trod_array ht hf
  have e : (Value.agg cs).cells.toList = cs.toList := rfl
  rw [e] at hl hx
  obtain ⟨ks, hk, hb⟩ := ints_of_cells cs.toList (fun i hi => by
    have hin : i < n := by rw [hl, hc] at hi; exact hi
    have h1 := hx i hin
    rw [cells5, Nat.mul_one, List.getElem?_eq_getElem (by omega)] at h1
    rw [List.drop_eq_getElem_cons hi, List.take_succ_cons, List.take_zero] at h1
    obtain ⟨z, hz, hr⟩ := DataW.trod_int Try.underlying5 h1
    refine ⟨z, bounds_u8 hr.2, ?_⟩
    rw [List.getElem?_eq_getElem hi]
    simp only [List.cons.injEq, and_true] at hz
    rw [hz])
  refine ⟨ks, by rw [← hk], ?_, hb⟩
  have := congrArg List.length hk
  simp [ints] at this
  omega
end Go.Proofs.Ytmineipjnllopaa
