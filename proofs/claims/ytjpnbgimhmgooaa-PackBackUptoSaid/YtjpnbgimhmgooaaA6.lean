/- Plain lemmas on numbers packed seven bits a byte: what stands at the beginning of some bytes. -/
import Derived.Test.YtjpnbgimhmgooaaA5
import Derived.Laws.BitsAllLaws
namespace Go.Proofs.Ytjpnbgimhmgooaa
open Go.RowKit
set_option linter.unusedVariables false

/-- The first bytes of bs are the number x, of k bytes; or they are none, and k is 0. -/
def Numb (bs : List Int) (x k : Nat) : Prop :=
  (k = 0 ∧ x = 0 ∧ ∀ y, y < 18446744073709551616 → ¬ num y <+: bs) ∨ (k = (num x).length ∧ num x <+: bs ∧ x < 18446744073709551616)

def Byte (b : Int) : Prop := 0 ≤ b ∧ b ≤ 255
def Bytes (bs : List Int) : Prop := ∀ b ∈ bs, Byte b

theorem num_ne (x : Nat) : num x ≠ [] := by rw [num]; split <;> simp
theorem num_pos (x : Nat) : 0 < (num x).length := List.length_pos_iff.2 (num_ne x)

theorem num_bytes (x : Nat) : Bytes (num x) := by
  induction x using Nat.strongRecOn with
  | _ x ih =>
    intro b hb
    by_cases h : x < 128
    · rw [num_lt h] at hb
      simp at hb
      subst hb
      constructor <;> omega
    · rw [num_ge (by omega)] at hb
      rcases List.mem_cons.1 hb with rfl | hb
      · constructor <;> omega
      · exact ih (x / 128) (by omega) b hb

/-- Two numbers of which one's bytes begin the other's are one. -/
theorem num_inj : ∀ (x y : Nat) (s t : List Int), num x ++ s = num y ++ t → x = y ∧ s = t := by
  intro x
  induction x using Nat.strongRecOn with
  | _ x ih =>
    intro y s t h
    by_cases hx : x < 128
    · rw [num_lt hx] at h
      by_cases hy : y < 128
      · rw [num_lt hy] at h
        simp at h
        exact ⟨by omega, h.2⟩
      · rw [num_ge (by omega)] at h
        simp at h
        omega
    · rw [num_ge (by omega)] at h
      by_cases hy : y < 128
      · rw [num_lt hy] at h
        simp at h
        omega
      · rw [num_ge (x := y) (by omega)] at h
        simp only [List.cons_append, List.cons.injEq] at h
        obtain ⟨e, hst⟩ := ih (x / 128) (by omega) (y / 128) s t h.2
        exact ⟨by omega, hst⟩

/-- Behind k bytes, none of them the last one. -/
def Mid (bs : List Int) (k x : Nat) : Prop :=
  k ≤ bs.length ∧ k ≤ 10 ∧ x < 128 ^ k ∧ (∀ b ∈ bs.take k, 128 ≤ b) ∧ ∀ y, (0 < y ∨ k = 0) → num (x + 128 ^ k * y) = bs.take k ++ num y

theorem mid_zero (bs : List Int) : Mid bs 0 0 := ⟨Nat.zero_le _, by omega, by decide, by simp, fun y _ => by simp⟩

theorem num_skip : ∀ (pre s : List Int) (y : Nat), (∀ b ∈ pre, 128 ≤ b) → num y <+: pre ++ s → num (y / 128 ^ pre.length) <+: s ∧ (0 < pre.length → 128 ^ pre.length ≤ y)
  | [], s, y, _, h => by simpa using h
  | p :: pre, s, y, hp, h => by
    have hp0 := hp p (by simp)
    by_cases hy : y < 128
    · rw [num_lt hy] at h
      simp at h
      omega
    · rw [num_ge (by omega)] at h
      simp only [List.cons_append, List.cons_prefix_cons] at h
      obtain ⟨h1, h2⟩ := num_skip pre s (y / 128) (fun b hb => hp b (by simp [hb])) h.2
      have e : 128 ^ (p :: pre).length = 128 ^ pre.length * 128 := by simp [Nat.pow_succ]
      rw [e]
      refine ⟨?_, fun _ => ?_⟩
      · rw [Nat.mul_comm, ← Nat.div_div_eq_div_mul]
        exact h1
      · by_cases h0 : 0 < pre.length
        · have := h2 h0
          have := (Nat.le_div_iff_mul_le (by omega)).1 this
          omega
        · have : pre.length = 0 := by omega
          rw [this]; omega

theorem take_get {bs : List Int} {k : Nat} (h : k < bs.length) : bs.drop k = bs.getD k 0 :: bs.drop (k + 1) := by
  rw [List.drop_eq_getElem_cons h]; simp [List.getD, List.getElem?_eq_getElem h]
theorem take_snoc' {bs : List Int} {k : Nat} (h : k < bs.length) : bs.take (k + 1) = bs.take k ++ [bs.getD k 0] := by
  rw [List.take_succ_eq_append_getElem h]; simp [List.getD, List.getElem?_eq_getElem h]

theorem mid_head {bs : List Int} {k x y : Nat} (h : Mid bs k x) (hy : num y <+: bs) : num (y / 128 ^ k) <+: bs.drop k ∧ (0 < k → 128 ^ k ≤ y) := by
  have e : (bs.take k).length = k := List.length_take_of_le h.1
  have := num_skip (bs.take k) (bs.drop k) y h.2.2.2.1 (by rw [List.take_append_drop]; exact hy)
  rw [e] at this
  exact this

/-- At the end of the bytes. -/
theorem mid_end {bs : List Int} {x : Nat} (h : Mid bs bs.length x) : Numb bs 0 0 := by
  refine .inl ⟨rfl, rfl, fun y _ hy => ?_⟩
  have := (mid_head h hy).1
  simp at this
  exact num_ne _ this

theorem mid_far {bs : List Int} {k x : Nat} (h : Mid bs k x) (hk : 9 < k) : Numb bs 0 0 := by
  refine .inl ⟨rfl, rfl, fun y hy1 hy => ?_⟩
  have := (mid_head h hy).2 (by omega)
  have h10 : k = 10 := by have := h.2.1; omega
  subst h10
  have e : (128 : Nat) ^ 10 = 1180591620717411303424 := by decide
  omega

theorem mid_nine {bs : List Int} {x : Nat} (h : Mid bs 9 x) (hk : 9 < bs.length) (hb : 1 < bs.getD 9 0) : Numb bs 0 0 := by
  refine .inl ⟨rfl, rfl, fun y hy1 hy => ?_⟩
  obtain ⟨h1, h2⟩ := mid_head h hy
  have e : (128 : Nat) ^ 9 = 9223372036854775808 := by decide
  rw [e] at h1 h2
  rw [take_get hk, num_lt (by omega)] at h1
  simp only [List.cons_prefix_cons] at h1
  omega

theorem mid_zeros {bs : List Int} {k x : Nat} (h : Mid bs k x) (hk : k < bs.length) (h0 : 0 < k) (hb : bs.getD k 0 = 0) : Numb bs 0 0 := by
  refine .inl ⟨rfl, rfl, fun y hy1 hy => ?_⟩
  obtain ⟨h1, h2⟩ := mid_head h hy
  have h3 := h2 h0
  rw [take_get hk, hb] at h1
  have hz : 0 < y / 128 ^ k := Nat.div_pos h3 (Nat.pow_pos (by omega))
  by_cases hs : y / 128 ^ k < 128
  · rw [num_lt hs] at h1
    simp only [List.cons_prefix_cons] at h1
    omega
  · rw [num_ge (by omega)] at h1
    simp only [List.cons_prefix_cons] at h1
    omega

theorem mid_bound {bs : List Int} {k x b : Nat} (h : Mid bs k x) (hk : k ≤ 9) (h9 : k = 9 → b ≤ 1) (hb : b < 128) : x + 128 ^ k * b < 18446744073709551616 := by
  have hx := h.2.2.1
  have : k = 0 ∨ k = 1 ∨ k = 2 ∨ k = 3 ∨ k = 4 ∨ k = 5 ∨ k = 6 ∨ k = 7 ∨ k = 8 ∨ k = 9 := by omega
  rcases this with h | h | h | h | h | h | h | h | h | h <;> subst h <;> simp at hx ⊢ <;> omega

/-- The last byte. -/
theorem mid_last {bs : List Int} {k x b : Nat} (h : Mid bs k x) (hk : k < bs.length) (hk9 : k ≤ 9) (hb : bs.getD k 0 = b) (h9 : k = 9 → b ≤ 1) (hb1 : b < 128) (h0 : b = 0 → k = 0) : Numb bs (x + 128 ^ k * b) (k + 1) := by
  have e := h.2.2.2.2 b (by omega)
  rw [num_lt hb1, ← hb, ← take_snoc' hk] at e
  refine .inr ⟨?_, ?_, mid_bound h hk9 h9 hb1⟩
  · rw [e, List.length_take_of_le (by omega)]
  · rw [e]; exact List.take_prefix _ _

/-- One byte more. -/
theorem mid_next {bs : List Int} {k x b : Nat} (h : Mid bs k x) (hk : k < bs.length) (hk9 : k ≤ 9) (hb : bs.getD k 0 = b) (hb1 : 128 ≤ b) (hb2 : b ≤ 255) : Mid bs (k + 1) (x + 128 ^ k * (b - 128)) := by
  have hp : 0 < 128 ^ k := Nat.pow_pos (by omega)
  have hx := h.2.2.1
  refine ⟨hk, by omega, ?_, ?_, ?_⟩
  · have : 128 ^ k * (b - 128) ≤ 128 ^ k * 127 := Nat.mul_le_mul_left _ (by omega)
    rw [Nat.pow_succ]
    omega
  · intro c hc
    rw [take_snoc' hk] at hc
    rcases List.mem_append.1 hc with hc | hc
    · exact h.2.2.2.1 c hc
    · simp only [List.mem_singleton] at hc
      rw [hc, hb]; omega
  · intro y hy
    have hy0 : 0 < y := by omega
    have e := h.2.2.2.2 ((b - 128) + 128 * y) (.inl (by omega))
    rw [num_ge (x := b - 128 + 128 * y) (by omega)] at e
    have e1 : x + 128 ^ k * (b - 128) + 128 ^ (k + 1) * y = x + 128 ^ k * (b - 128 + 128 * y) := by
      rw [Nat.pow_succ, Nat.mul_add, Nat.add_assoc, Nat.mul_assoc]
    rw [e1, e, take_snoc' hk, hb, show (b - 128 + 128 * y) / 128 = y by omega, show (b - 128 + 128 * y) % 128 + 128 = b by omega]
    simp

/-- What the walk makes of 'x |= uint64(c&127) << (7 * n)'. -/
theorem or_step {k x : Nat} {b : Int} (hx : x < 128 ^ k) (hk : k ≤ 9) (b0 : 0 ≤ b) (b1 : b ≤ 255) (h9 : k = 9 → b ≤ 1) :
    bits BinOp.or IntKind.u64 (x : Int) (IntKind.u64.wrap (IntKind.u64.wrap (bits BinOp.and IntKind.u8 b 127) * 2 ^ (7 * k))) = ((x + 128 ^ k * (b.toNat % 128) : Nat) : Int) := by
  have e1 : bits BinOp.and IntKind.u8 b 127 = ((b.toNat % 128 : Nat) : Int) := by
    rw [u8_and b 127 b0 (by omega) (by omega) (by omega)]
    show ((b.toNat &&& 127 : Nat) : Int) = _
    rw [nat_mask7]
  have e2 : (2 : Int) ^ (7 * k) = ((128 ^ k : Nat) : Int) := by
    rw [Int.pow_mul]; norm_cast
  have hp : 0 < 128 ^ k := Nat.pow_pos (by omega)
  have hbnd : 128 ^ k * (b.toNat % 128) < 18446744073709551616 := by
    have : k = 0 ∨ k = 1 ∨ k = 2 ∨ k = 3 ∨ k = 4 ∨ k = 5 ∨ k = 6 ∨ k = 7 ∨ k = 8 ∨ k = 9 := by omega
    rcases this with h | h | h | h | h | h | h | h | h | h <;> subst h <;> simp <;> omega
  have hxb : x < 18446744073709551616 := by
    have : k = 0 ∨ k = 1 ∨ k = 2 ∨ k = 3 ∨ k = 4 ∨ k = 5 ∨ k = 6 ∨ k = 7 ∨ k = 8 ∨ k = 9 := by omega
    rcases this with h | h | h | h | h | h | h | h | h | h <;> subst h <;> simp at hx <;> omega
  rw [e1, e2]
  rw [IntWalk.u64_in ((b.toNat % 128 : Nat) : Int) ⟨by omega, by omega⟩]
  have e3 : ((b.toNat % 128 : Nat) : Int) * ((128 ^ k : Nat) : Int) = ((128 ^ k * (b.toNat % 128) : Nat) : Int) := by
    rw [Nat.mul_comm]; norm_cast
  rw [e3, IntWalk.u64_in _ ⟨by omega, by omega⟩, u64_or_nat x _ hxb hbnd]
  congr 1
  have e4 : 128 ^ k = 2 ^ (7 * k) := by rw [Nat.pow_mul]
  rw [e4] at hx ⊢
  rw [Nat.or_comm, nat_join (7 * k) _ x (Nat.mul_mod_right _ _) hx, Nat.add_comm]
end Go.Proofs.Ytjpnbgimhmgooaa
