/- PackTakes: what the package takes is what the reference takes; the walk. -/
import Derived.Test.YtjpnbgimhmgooaaD6
namespace Go.Proofs.Ytjpnbgimhmgooaa
open Go.RowKit
set_option linter.unusedVariables false

theorem numb_unique {bs : List Int} {x k y j : Nat} (h : Numb bs x k) (g : Numb bs y j) : x = y ∧ k = j := by
  rcases h with ⟨rfl, rfl, h⟩ | ⟨rfl, h, hx⟩
  · rcases g with ⟨rfl, rfl, _⟩ | ⟨_, g, hy⟩
    · exact ⟨rfl, rfl⟩
    · exact absurd g (h y hy)
  · rcases g with ⟨rfl, rfl, g⟩ | ⟨rfl, g, hy⟩
    · exact absurd h (g x hx)
    · obtain ⟨s, hs⟩ := h
      obtain ⟨t, ht⟩ := g
      obtain ⟨rfl, _⟩ := num_inj x y s t (hs.trans ht.symm)
      exact ⟨rfl, rfl⟩

/-- One part: the package against the reference. -/
def Agree (bad : Bool) (bs : List Int) (y : Nat) (t : List Int) (bad' : Bool) (rest : List Int) (y' : Nat) (u : List Int) (m : Int) : Prop :=
  if bad = true ∨ m < 0 then y = 0 ∧ t = [] ∧ bad' = true ∧ rest = bs
  else y = y' ∧ t = u ∧ bad' = false ∧ rest = bs.drop m.toNat ∧ m.toNat ≤ bs.length

theorem wrap64_small {x : Nat} (hx : x < 18446744073709551616) (h : 0 ≤ wrap64 x) : wrap64 x = x := by unfold wrap64 at h ⊢; omega

theorem took_gotten {bad bad' : Bool} {bs t u rest : List Int} {k : Int} {x y y' : Nat} {m : Int} (hb : Bytes bs) (hx : x < 18446744073709551616) (h : Took bad bs k x y t bad' rest) (g : Gotten bs k x y' u m) :
    Agree bad bs y t bad' rest y' u m := by
  unfold Took at h
  unfold Gotten at g
  unfold Agree
  by_cases k0 : k % 4 = 0
  · rw [if_pos k0] at h g
    obtain ⟨z, j, hn, h⟩ := h
    obtain ⟨z', j', gn, g⟩ := g
    obtain ⟨rfl, rfl⟩ := numb_unique hn gn
    by_cases hf : j = 0 ∨ x < z
    · rw [if_pos hf] at g
      rw [if_pos (.inr hf)] at h
      rw [if_pos (.inr (by omega))]
      exact h
    · rw [if_neg hf] at g
      cases bad
      · rw [if_neg (by rintro (e | e); cases e; exact hf e)] at h
        rw [if_neg (by rintro (e | e); cases e; omega)]
        obtain ⟨rfl, rfl, rfl⟩ := g
        obtain ⟨rfl, rfl, rfl, rfl⟩ := h
        exact ⟨rfl, rfl, rfl, by rw [Int.toNat_natCast], by rw [Int.toNat_natCast]; exact numb_le hn⟩
      · rw [if_pos (.inl rfl)] at h
        rw [if_pos (.inl rfl)]
        exact h
  · rw [if_neg k0] at h g
    by_cases k1 : k % 4 = 1
    · rw [if_pos k1] at h g
      obtain ⟨z, j, hn, h⟩ := h
      obtain ⟨z', j', gn, g⟩ := g
      obtain ⟨rfl, rfl⟩ := numb_unique hn gn
      have same : (j = 0 ∨ wrap64 x < 0 ∨ wrap64 x < z ∨ 4096 < z ∨ bs.length < j + z) ↔ (j = 0 ∨ wrap64 x < 0 ∨ x < z ∨ 4096 < z ∨ bs.length < j + z) := by
        by_cases hw : wrap64 x < 0
        · constructor <;> exact fun _ => .inr (.inl hw)
        · have := wrap64_small hx (by omega)
          rw [this]; omega
      by_cases hf : j = 0 ∨ wrap64 x < 0 ∨ x < z ∨ 4096 < z ∨ bs.length < j + z
      · rw [if_pos hf] at g
        rw [if_pos (.inr (same.2 hf))] at h
        rw [if_pos (.inr (by omega))]
        exact h
      · rw [if_neg hf] at g
        cases bad
        · rw [if_neg (by rintro (e | e); cases e; exact hf (same.1 e))] at h
          rw [if_neg (by rintro (e | e); cases e; omega)]
          obtain ⟨rfl, rfl, rfl⟩ := g
          obtain ⟨rfl, rfl, rfl, rfl⟩ := h
          exact ⟨rfl, rfl, rfl, by rw [Int.toNat_natCast], by rw [Int.toNat_natCast]; omega⟩
        · rw [if_pos (.inl rfl)] at h
          rw [if_pos (.inl rfl)]
          exact h
    · rw [if_neg k1] at h g
      by_cases k2 : k % 4 = 2
      · rw [if_pos k2] at h g
        by_cases hf : wrap64 x < 0 ∨ (bs.length : Int) < wrap64 x
        · rw [if_pos hf] at g
          rw [if_pos (.inr hf)] at h
          rw [if_pos (.inr (by omega))]
          exact h
        · rw [if_neg hf] at g
          cases bad
          · rw [if_neg (by rintro (e | e); cases e; exact hf e)] at h
            rw [if_neg (by rintro (e | e); cases e; omega)]
            obtain ⟨rfl, rfl, rfl⟩ := g
            obtain ⟨rfl, rfl, rfl, rfl⟩ := h
            exact ⟨rfl, rfl, rfl, rfl, by omega⟩
          · rw [if_pos (.inl rfl)] at h
            rw [if_pos (.inl rfl)]
            exact h
      · rw [if_neg k2] at h g
        by_cases hf : bs = [] ∨ 1 < bs.getD 0 0
        · rw [if_pos hf] at g
          rw [if_pos (.inr hf)] at h
          rw [if_pos (.inr (by omega))]
          exact h
        · rw [if_neg hf] at g
          cases bad
          · rw [if_neg (by rintro (e | e); cases e; exact hf e)] at h
            rw [if_neg (by rintro (e | e); cases e; omega)]
            have hne : bs ≠ [] := fun e => hf (.inl e)
            have hl : 0 < bs.length := List.length_pos_iff.2 hne
            have hbb := byte_at hb hl
            obtain ⟨hy, rfl, rfl⟩ := g
            obtain ⟨rfl, rfl, rfl, rfl⟩ := h
            refine ⟨?_, rfl, rfl, rfl, by show 1 ≤ _; omega⟩
            have h1 : ¬ 1 < bs.getD 0 0 := fun e => hf (.inr e)
            have := hbb.1
            split <;> omega
          · rw [if_pos (.inl rfl)] at h
            rw [if_pos (.inl rfl)]
            exact h
end Go.Proofs.Ytjpnbgimhmgooaa
