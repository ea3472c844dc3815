/- PackBack: what was put in is taken out: plain. -/
import Derived.Test.YtjpnbgimhmgooaaF1
namespace Go.Proofs.Ytjpnbgimhmgooaa
open Go.RowKit
set_option linter.unusedVariables false

/-- All parts' bytes, one behind the other. -/
def cat : List Pt → List Int
  | [] => []
  | q :: l => pbytes q ++ cat l

theorem cat_append : ∀ (a b : List Pt), cat (a ++ b) = cat a ++ cat b
  | [], b => rfl
  | q :: a, b => by simp only [List.cons_append, cat, cat_append a b, List.append_assoc]
theorem cat_snoc {l : List Pt} {k : Nat} {q : Pt} (h : l[k]? = some q) : cat (l.take (k + 1)) = cat (l.take k) ++ pbytes q := by
  obtain ⟨hk, e⟩ := List.getElem?_eq_some_iff.1 h
  rw [List.take_succ_eq_append_getElem hk, cat_append, e]
  simp [cat]
theorem cat_drop {l : List Pt} {k : Nat} {q : Pt} (h : l[k]? = some q) : cat (l.drop k) = pbytes q ++ cat (l.drop (k + 1)) := by
  obtain ⟨hk, e⟩ := List.getElem?_eq_some_iff.1 h
  rw [List.drop_eq_getElem_cons hk, e]
  rfl
theorem pbytes_bytes {w : World} {q : Pt} (h : PtOk w q) : Bytes (pbytes q) := by
  unfold pbytes
  split
  · exact num_bytes _
  · split
    · intro b hb
      rcases List.mem_append.1 hb with hb | hb
      · exact num_bytes _ b hb
      · exact h.bytes b hb
    · split
      · exact h.bytes
      · intro b hb
        simp only [List.mem_singleton] at hb
        subst hb
        constructor <;> omega
theorem cat_bytes {l : List Pt} (h : ∀ q ∈ l, Bytes (pbytes q)) : Bytes (cat l) := by
  induction l with
  | nil => intro b hb; cases hb
  | cons q l ih =>
    intro b hb
    rcases List.mem_append.1 hb with hb | hb
    · exact h q (by simp) b hb
    · exact ih (fun q hq => h q (by simp [hq])) b hb

theorem numb_uniq {bs : List Int} {x k y j : Nat} (h : Numb bs x k) (g : Numb bs y j) : x = y ∧ k = j := by
  rcases h with ⟨rfl, rfl, h⟩ | ⟨rfl, h, hx⟩
  · rcases g with ⟨rfl, rfl, _⟩ | ⟨_, g, hy⟩
    · exact ⟨rfl, rfl⟩
    · exact absurd g (h y hy)
  · rcases g with ⟨rfl, rfl, g⟩ | ⟨rfl, g, hy⟩
    · exact absurd h (g x hx)
    · obtain ⟨s, hs⟩ := h
      obtain ⟨t, ht⟩ := g
      obtain ⟨rfl, _⟩ := num_inj x y s t (hs.trans ht.symm)
      exact ⟨rfl, rfl⟩

/-- The number that the law asks with. -/
def asked (q : Pt) : Nat := if q.kind % 4 = 1 ∨ q.kind % 4 = 2 then q.n else q.x

theorem numb_head {x : Nat} {rest : List Int} (hx : x < 18446744073709551616) : Numb (num x ++ rest) x (num x).length := .inr ⟨rfl, ⟨rest, rfl⟩, hx⟩

theorem wrap64_nat {n : Nat} (h : n ≤ 9223372036854775807) : wrap64 (n : Int) = n := by unfold wrap64; omega

/-- What was put in is taken out. -/
theorem took_back {w : World} {q : Pt} {rest t r2 : List Int} {y : Nat} {bad' : Bool} (h : PtOk w q) (hb : ¬ pbad q) (hn : q.n ≤ 9223372036854775807) (hk : Took false (pbytes q ++ rest) q.kind (asked q) y t bad' r2) :
    bad' = false ∧ r2 = rest ∧ (q.kind % 4 = 0 → y = q.x ∧ t = []) ∧ (q.kind % 4 = 1 → t = q.bs ∧ y = 0) ∧ (q.kind % 4 = 2 → t = q.bs ∧ y = 0) ∧ (q.kind % 4 = 3 → y = q.x % 2 ∧ t = []) := by
  unfold Took at hk
  have hl := h.len
  rcases kind_cases q.kind with k | k | k | k
  · have e1 : pbytes q = num q.x := by unfold pbytes; rw [if_pos k]
    have e2 : asked q = q.x := by unfold asked; rw [if_neg (by omega)]
    rw [if_pos k, e1, e2] at hk
    obtain ⟨z, j, hz, hk⟩ := hk
    obtain ⟨rfl, rfl⟩ := numb_uniq hz (numb_head h.num)
    have := num_pos q.x
    rw [if_neg (by rintro (e | e | e); cases e; omega; omega)] at hk
    obtain ⟨rfl, rfl, rfl, rfl⟩ := hk
    exact ⟨rfl, by simp, fun _ => ⟨rfl, rfl⟩, fun e => by omega, fun e => by omega, fun e => by omega⟩
  · have e1 : pbytes q = num q.bs.length ++ q.bs := by unfold pbytes; rw [if_neg (by omega), if_pos k]
    have e2 : asked q = q.n := by unfold asked; rw [if_pos (.inl k)]
    have hlen : q.bs.length ≤ 4096 := by
      rcases Nat.lt_or_ge 4096 q.bs.length with e | e
      · exact absurd ⟨k, e⟩ hb
      · exact e
    rw [if_neg (by omega), if_pos k, e1, e2, List.append_assoc] at hk
    obtain ⟨z, j, hz, hk⟩ := hk
    obtain ⟨rfl, rfl⟩ := numb_uniq hz (numb_head (by omega))
    have := num_pos q.bs.length
    rw [wrap64_nat hn, if_neg (by rintro (e | e | e | e | e | e); cases e; omega; omega; omega; omega; simp at e; omega)] at hk
    obtain ⟨rfl, rfl, rfl, rfl⟩ := hk
    refine ⟨rfl, ?_, fun e => by omega, fun _ => ⟨?_, rfl⟩, fun e => by omega, fun e => by omega⟩
    · rw [← List.drop_drop]; simp
    · simp
  · have e1 : pbytes q = q.bs := by unfold pbytes; rw [if_neg (by omega), if_neg (by omega), if_pos k]
    have e2 : asked q = q.n := by unfold asked; rw [if_pos (.inr k)]
    rw [if_neg (by omega), if_neg (by omega), if_pos k, e1, e2, wrap64_nat hn, if_neg (by simp; omega)] at hk
    obtain ⟨rfl, rfl, rfl, rfl⟩ := hk
    refine ⟨rfl, ?_, fun e => by omega, fun e => by omega, fun _ => ⟨?_, rfl⟩, fun e => by omega⟩
    · rw [Int.toNat_natCast, ← hl]; simp
    · rw [Int.toNat_natCast, ← hl]; simp
  · have e1 : pbytes q = [((q.x % 2 : Nat) : Int)] := by unfold pbytes; rw [if_neg (by omega), if_neg (by omega), if_neg (by omega)]
    rw [if_neg (by omega), if_neg (by omega), if_neg (by omega), e1] at hk
    rw [if_neg (by simp; omega)] at hk
    obtain ⟨hy, rfl, rfl, rfl⟩ := hk
    refine ⟨rfl, by simp, fun e => by omega, fun e => by omega, fun e => by omega, fun _ => ⟨?_, rfl⟩⟩
    rw [hy]
    simp
    split <;> omega
end Go.Proofs.Ytjpnbgimhmgooaa
