/- Base of the seat: bytes.Clone, bytes as a string, rows that are owned. -/
import Derived.Test.YtmineipjnllopaaA2
import Derived.Laws.BytesArg
namespace Go.Proofs.Ytmineipjnllopaa
open Go.RowKit
set_option linter.unusedVariables false

theorem add_block (x : Addr) (n : Nat) : (x.add n).block = x.block := by unfold Addr.add; split <;> rfl
theorem str_ok {w : World} {a : Option Addr} {xs : List Int} {n c : Nat} (h : Reads w a xs) (hl : xs.length = n) : (convert 25 9 (.slice a n c)).run Try.prog w = .ok (.string (strOfNums xs)) w := by
  cases a with
  | none =>
    have := h.1 rfl
    subst this
    exact run_convert_bytes_nil w 25 5 Try.underlying25 Try.underlying5 n c 9 Try.underlying9
  | some x =>
    rw [run_convert_bytes_string w 25 9 5 _ n c Try.underlying25 Try.underlying5 Try.underlying9]
    have hl2 : (loadCells x n).run Try.prog w = .ok (xs.map (Value.int .u8)).toArray w := by
      have := run_loadCells_list (P := Try.prog) w x (xs.map (Value.int .u8)) (fun j v hj => by
        obtain ⟨hjl, rfl⟩ := ints_get hj
        exact h.2 x rfl j hjl)
      simpa [hl] using this
    rw [run_bytesToString w x n c xs hl2, foldl_push_bytes]
    simp [strOfNums, ByteArray.empty, ByteArray.emptyWithCapacity]
    rfl

theorem Own.reads {w : World} {a : Option Addr} {n c : Nat} {xs : List Int} (h : Own w (.slice a n c) xs) : Reads w a xs ∧ xs.length = n := by
  obtain ⟨a', c', hv, _, hr, _, _⟩ := h.form
  cases hv
  exact ⟨hr, rfl⟩

/-- Where something is owned: its head. -/
theorem Own.head {w : World} {a : Option Addr} {n c : Nat} {xs : List Int} (h : Own w (.slice a n c) xs) (hn : 0 < n) : ∃ g, a = some ⟨g, 0, none⟩ ∧ g < w.heap.size := by
  rcases h.2 with ⟨e, h0⟩ | ⟨g, cap, cur, e, _, hg, _⟩
  · cases e; omega
  · cases e; exact ⟨g, rfl, heap_lt hg⟩

theorem Own.cell {w : World} {g n c : Nat} {xs : List Int} (h : Own w (.slice (some ⟨g, 0, none⟩) n c) xs) {i : Nat} (hi : i < n) : w.cell? ⟨g, i, none⟩ = some (.int .u8 (xs.getD i 0)) := by
  obtain ⟨hr, hl⟩ := h.reads
  have := hr.2 _ rfl i (by omega)
  rw [Addr.add_lit, Nat.zero_add] at this
  exact this
theorem Own.free {w : World} {g n c : Nat} {xs : List Int} (h : Own w (.slice (some ⟨g, 0, none⟩) n c) xs) (i : Nat) : w.frozen? ⟨g, i, none⟩ = false := by
  rcases h.2 with ⟨e, h0⟩ | ⟨g, cap, cur, e, _, hg, _⟩
  · cases e
  · cases e; exact frozen_of hg i

theorem Own.store {w : World} {g n c : Nat} {xs : List Int} (h : Own w (.slice (some ⟨g, 0, none⟩) n c) xs) {i : Nat} (hi : i < n) (z : Int) : Own (w.setCell ⟨g, i, none⟩ (.int .u8 z)) (.slice (some ⟨g, 0, none⟩) n c) (xs.set i z) := by
  have hl := h.reads.2
  rcases h.2 with ⟨e, h0⟩ | ⟨g, cap, cur, e, hb, hg, hn, hcm, hcs, htake⟩
  · cases e
  · cases e
    refine ⟨by simp, .inr ⟨g, c, cur.setIfInBounds i (.int .u8 z), by simp, hb, ?_, by simpa using hn, hcm, by simpa using hcs, ?_⟩⟩
    · exact heap_setCell_at hg i _
    · simp only [Array.toList_setIfInBounds, List.length_set]
      rw [List.take_set, htake]
      simp [ints, List.map_set]

/-- append(v, x...) at []byte, as a run. -/
theorem app_run {w : World} (ty : TypeId) (v : Value) (xs : List Int) (hown : Own w v xs) (ao : Option Addr) (m c : Nat) (ys : List Int) (hnone : ao = none → c = 0) (hr : Reads w ao ys) (hm : ys.length = m) (hb : xs.length + m ≤ 140737488355328) :
    ∃ a' n' c' w', (Builtin.append_ #[25, 25] ty #[v, .slice ao m c]).run Try.prog w = .ok (.slice a' n' c') w' ∧ Own w' (.slice a' n' c') (xs ++ ys) ∧ Keeps w w' (Row v) ∧ Fresh w v (.slice a' n' c') := by
  obtain ⟨i0, hi, hz0, hz1, hz2⟩ := info_parts info5
  cases ao with
  | some ad =>
    obtain ⟨v', w', hr', hown', hg, hnil, hat⟩ := run_append_own_at (P := Try.prog) w 0 25 ty 5 i0 (.int .u8 0) 1 1 Try.underlying25 hi hz0 hz1 hz2 rfl (by decide) v xs.length (ints xs) hown ad m c (ints ys) (by simp [ints, hm]) hr.news (ints_one ys) (by unfold maxLen; omega) (by omega) (Nat.zero_le _)
    have hown2 : Own w' v' (xs ++ ys) := by unfold Own; rw [ints_append, List.length_append, hm]; exact hown'
    obtain ⟨a', c', hv, _, _, hn0, _⟩ := hown2.form
    subst hv
    refine ⟨a', _, c', w', hr', hown2, Keeps.of_grown hg fun k _ e => e, ?_⟩
    intro k hk
    rcases hat with e | e
    · exact .inl (e ▸ hk)
    · rw [e] at hk; cases hk; exact .inr (Nat.le_refl _)
  | none =>
    have hy : ys = [] := hr.1 rfl
    subst hy
    have hm0 : m = 0 := by simpa using hm.symm
    subst hm0
    have hc0 := hnone rfl
    subst hc0
    have hrun := run_append_owned_none (P := Try.prog) w 0 25 ty 5 i0 1 Try.underlying25 hi v xs.length (ints xs) hown
    obtain ⟨a', c', hv, _, _, hn0, _⟩ := hown.form
    refine ⟨a', xs.length, c', w, by rw [hrun, hv], by rw [List.append_nil, ← hv]; exact hown, Keeps.refl _ _, fun k hk => .inl (by rw [hv]; exact hk)⟩

def Byte (b : Int) : Prop := 0 ≤ b ∧ b ≤ 255
def Bytes (bs : List Int) : Prop := ∀ b ∈ bs, Byte b

theorem ofNums_inj : ∀ {xs ys : List Int}, Bytes xs → Bytes ys → xs.map (fun n => UInt8.ofNat n.toNat) = ys.map (fun n => UInt8.ofNat n.toNat) → xs = ys
  | [], [], _, _, _ => rfl
  | [], y :: ys, _, _, h => by simp at h
  | x :: xs, [], _, _, h => by simp at h
  | x :: xs, y :: ys, hx, hy, h => by
    simp only [List.map_cons, List.cons.injEq] at h
    have h1 := hx x (by simp)
    have h2 := hy y (by simp)
    have e : x.toNat = y.toNat := by
      have := congrArg UInt8.toNat h.1
      rw [UInt8.toNat_ofNat_of_lt' (by have := h1.2; simp; omega), UInt8.toNat_ofNat_of_lt' (by have := h2.2; simp; omega)] at this
      exact this
    rw [ofNums_inj (fun b hb => hx b (by simp [hb])) (fun b hb => hy b (by simp [hb])) h.2]
    have := h1.1
    have := h2.1
    congr 1
    omega

theorem strs_ne {xs ys : List Int} (hx : Bytes xs) (hy : Bytes ys) (h : xs ≠ ys) : ((strOfNums xs).toList == (strOfNums ys).toList) = false := by
  rw [beq_eq_false_iff_ne]
  intro e
  rw [ByteArray.toList_eq, ByteArray.toList_eq, strOfNums_data, strOfNums_data] at e
  exact h (ofNums_inj hx hy e)

theorem Reads.later {w w' : World} {a : Option Addr} {xs : List Int} (h : Reads w a xs) (b : Below w.heap.size w w') : Reads w' a xs := h.keeps (Keeps.of_below b (S := fun _ => False)) (fun _ _ h => h)
end Go.Proofs.Ytmineipjnllopaa
