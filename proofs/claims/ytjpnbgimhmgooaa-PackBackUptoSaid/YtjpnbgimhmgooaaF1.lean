/- PackPuts: the walk. -/
import Derived.Test.YtjpnbgimhmgooaaD8
namespace Go.Proofs.Ytjpnbgimhmgooaa
open Go.RowKit
set_option linter.unusedVariables false

/-- An Out and a slice of bytes beside it, both of the call's own, apart from each other. -/
structure Two (w wr : World) (o : Nat) (v : Value) (long : Bool) (xs : List Int) (t : Value) (ys : List Int) : Prop where
  out : OutAt wr o v long xs
  mine : Mine w wr t ys
  disj : ∀ j, t.ownBlock = some j → ¬ Foot o v j
  foot : ∀ j, Foot o v j → w.heap.size ≤ j

theorem Two.put {w wr w1 : World} {o : Nat} {v : Value} {long l1 : Bool} {xs x1 ys : List Int} {t : Value} (h : Two w wr o v long xs t ys) (p : PutPost wr o v l1 x1 w1) : ∃ v1, Two w w1 o v1 l1 x1 t ys := by
  obtain ⟨v1, o1, k1, f1⟩ := p
  refine ⟨v1, o1, ⟨h.mine.own.keeps k1 h.disj, h.mine.fresh, h.mine.below.trans (k1.under h.mine.below.size h.foot)⟩, ?_, ?_⟩
  · rintro j hj (e | e)
    · exact h.disj j hj (.inl e)
    · rcases f1 j e with e1 | e1
      · exact h.disj j hj (.inr e1)
      · have := h.mine.own.lt hj; omega
  · rintro j (e | e)
    · exact h.foot j (.inl e)
    · rcases f1 j e with e1 | e1
      · exact h.foot j (.inr e1)
      · have := h.mine.below.size; omega
theorem Two.later {w w1 w2 : World} {o : Nat} {v : Value} {long : Bool} {xs ys : List Int} {t : Value} (h : Two w w1 o v long xs t ys) (b : Below w1.heap.size w1 w2) : Two w w2 o v long xs t ys :=
  ⟨h.out.keeps (Keeps.of_below b (S := fun _ => False)) (fun _ _ h => h), ⟨h.mine.own.keeps (Keeps.of_below b (S := fun _ => False)) (fun _ _ h => h), h.mine.fresh, h.mine.below.trans (b.mono h.mine.below.size)⟩, h.disj, h.foot⟩
theorem Two.app {w w2 w3 : World} {o : Nat} {v : Value} {long : Bool} {xs ys zs : List Int} {t t' : Value} (h : Two w w2 o v long xs t ys) (ho : Own w3 t' zs) (hk : Keeps w2 w3 (Row t)) (hf : Fresh w2 t t') : Two w w3 o v long xs t' zs := by
  have hlt : ∀ i, Foot o v i → i < w2.heap.size := by
    rintro i (e | e)
    · rw [e]; exact heap_lt h.out.cells
    · exact h.out.own.lt e
  refine ⟨h.out.keeps hk (fun i hi e => h.disj i e hi), ⟨ho, ?_, h.mine.below.trans (hk.under h.mine.below.size h.mine.fresh)⟩, ?_, h.foot⟩
  · intro j hj
    rcases hf j hj with e | e
    · exact h.mine.fresh j e
    · have := h.mine.below.size; omega
  · intro j hj hfj
    rcases hf j hj with e | e
    · exact h.disj j e hfj
    · have := hlt j hfj; omega

def padd (q : Pt) : List Int := if pbad q then [] else pbytes q

theorem padd_length {w : World} {q : Pt} (h : PtOk w q) : (padd q).length ≤ q.bs.length + 10 := by
  unfold padd pbytes
  split
  · simp
  · rename_i hb
    split
    · have := num_length_u64 h.num; omega
    · split
      · have : q.bs.length < 18446744073709551616 := by
          rename_i hk
          have : ¬ 4096 < q.bs.length := fun e => hb ⟨hk, e⟩
          omega
        have := num_length_u64 this
        simp; omega
      · split
        · omega
        · simp

/-- What the package puts in is what the reference says, whether it is too long or not. -/
theorem part_step {w wr w1 : World} {o : Nat} {v t : Value} {good : Bool} {xs : List Int} {q : Pt} (h : Two w wr o v (!good) xs t xs) (p : PartPost wr o v (!good) xs q w1) {ok : Bool} (hok : ok = true ↔ ¬ pbad q) :
    ∃ v1, Two w w1 o v1 (!(good && ok)) (xs ++ padd q) t xs := by
  unfold PartPost at p
  unfold padd
  by_cases hb : pbad q
  · rw [if_pos hb] at p ⊢
    have : ok = false := by cases ok; rfl; exact absurd hb (hok.1 rfl)
    subst this
    rw [Bool.and_false, List.append_nil]
    exact h.put p
  · rw [if_neg hb] at p ⊢
    rw [hok.2 hb, Bool.and_true]
    exact h.put p

theorem ptSum_take {l : List Pt} {k : Nat} {q : Pt} (h : l[k]? = some q) : ptSum (l.take (k + 1)) = ptSum (l.take k) + q.bs.length := by
  have : ∀ (a b : List Pt), ptSum (a ++ b) = ptSum a + ptSum b := by
    intro a b
    induction a with
    | nil => simp [ptSum]
    | cons x a ih => simp only [List.cons_append, ptSum, ih]; omega
  obtain ⟨hk, e⟩ := List.getElem?_eq_some_iff.1 h
  rw [List.take_succ_eq_append_getElem hk, this, e]
  simp [ptSum]
theorem ptSum_le : ∀ (l : List Pt) (k : Nat), ptSum (l.take k) ≤ ptSum l
  | [], k => by simp [ptSum]
  | q :: l, 0 => by simp [ptSum]
  | q :: l, k + 1 => by simp only [List.take_succ_cons, ptSum]; have := ptSum_le l k; omega
theorem ptSum_get {l : List Pt} {k : Nat} {q : Pt} (h : l[k]? = some q) : q.bs.length ≤ ptSum l := by
  have := ptSum_take h; have := ptSum_le l (k + 1); omega

def PutsRel (w : World) (o nl : Nat) (l : List Pt) (t4 t5 t6 : Value) (wr : World) : Prop :=
  ∃ (k : Nat) (a : Option Addr) (n c : Nat) (good : Bool) (xs : List Int) (v : Value), t6 = .int .i64 k ∧ t4 = .slice a n c ∧ t5 = .bool good ∧ k ≤ nl ∧ xs.length ≤ ptSum (l.take k) + 10 * k ∧ Two w wr o v (!good) xs (.slice a n c) xs

theorem puts_next {w w3 : World} {o nl k n' c' : Nat} {l : List Pt} {q : Pt} {a' : Option Addr} {good : Bool} {xs : List Int} {v : Value} (hk : k < nl) (hq : l[k]? = some q) {wq : World} (hw : PtOk wq q) (hl : xs.length ≤ ptSum (l.take k) + 10 * k)
    (h : Two w w3 o v (!good) (xs ++ padd q) (.slice a' n' c') (xs ++ padd q)) : PutsRel w o nl l (.slice a' n' c') (.bool good) (.int .i64 ((k : Int) + 1)) w3 := by
  refine ⟨k + 1, a', n', c', good, _, v, rfl, rfl, rfl, hk, ?_, h⟩
  have := padd_length hw
  rw [ptSum_take hq, List.length_append]
  omega
end Go.Proofs.Ytjpnbgimhmgooaa
