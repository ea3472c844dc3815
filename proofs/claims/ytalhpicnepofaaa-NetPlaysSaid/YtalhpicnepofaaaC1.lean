/- The contracts of Double and awake; a net of one's own. -/
import Derived.Test.YtalhpicnepofaaaB6
namespace Go.Proofs.Ytalhpicnepofaaa
open Go.RowKit
set_option linter.unusedVariables false
set_option linter.unusedSimpArgs false

theorem netPost_after {w w1 w' : World} {o : Nat} {v : Value} {l l' : List Lt} (b : Below w.heap.size w w1) (h : NetPost w1 o v l l' w') : NetPost w o v l l' w' := by
  obtain ⟨v', n, k, f, q⟩ := h
  have hs := b.size
  refine ⟨v', n, (Keeps.of_below b (S := Foot o v)).trans k (fun _ _ h => h), fun k hk => (f k hk).imp id (fun h => by omega), fun p hp => (q p hp).imp id (fun h x hx hn => by have := h x hx hn; omega)⟩

/-- What Double answers. -/
def DoublePost (w : World) (o : Nat) (v : Value) (l : List Lt) (i : Int) (e : Ending) (w' : World) : Prop :=
  (l = [] ∧ e = .returned (.bool false) ∧ NetPost w o v l l w') ∨
    ∃ (k : Nat) (q : Lt), placeOf l.length i = k ∧ l[k]? = some q ∧
      ((200 ≤ l.length ∨ 16384 < q.n) ∧ e = .returned (.bool false) ∧ NetPost w o v l l w' ∨
       ¬ (200 ≤ l.length ∨ 16384 < q.n) ∧ e = .returned (.bool true) ∧ ∃ q', q'.f = q.f ∧ q'.t = q.t ∧ q'.bs = q.bs ∧ NetPost w o v l (l ++ [q']) w')

set_option maxRecDepth 100000 in
set_option maxHeartbeats 2000000 in
theorem double_ok {w : World} {o : Nat} {v : Value} {l : List Lt} (h : NetAt w 47 o v l) (i : Int) (hl : l.length ≤ 300) (hb : ∀ q ∈ l, q.n ≤ 140737488355328) :
    Calls Try.prog 12 #[.pointer (some ⟨o, 0, none⟩), .int .i64 i] w (DoublePost w o v l i) := by
  have H := Lib.hid h
  have HB := Lib.hid hb
  clear h hb
  go_enter Try.func12, Try.ntmps12
  go_wp2_with fail
  refine (at_ok H.out i hl HB.out).mono ?_
  rintro e w1 ⟨hbl, he⟩
  have B1 := Lib.hid hbl
  rcases he with ⟨rfl, rfl⟩ | ⟨k, q, a1, n1, c1, hp, hq, rfl, ho, hf⟩
  · clear hbl
    simp only [Lt.agg, zeroLt]
    go_wp2
    go_ret
    exact .inl ⟨rfl, rfl, netPost_below H.out (B1.out.alloc B1.out.size _)⟩
  · have HQ := Lib.hid hq
    have HP := Lib.hid hp
    have BE : Hid (Below w.heap.size w (w1.alloc (.cells #[.int .i64 q.f, .int .i64 q.t, .slice a1 n1 c1] 27))) := Lib.hid (B1.out.alloc B1.out.size _)
    have HE := Lib.hid (H.out.later BE.out)
    have HN := (H.out.lts q (List.mem_of_getElem? hq)).len
    have OE : Own (w1.alloc (.cells #[.int .i64 q.f, .int .i64 q.t, .slice a1 n1 c1] 27)) (.slice a1 n1 c1) q.bs := ho.keeps (Keeps.alloc w1 _ (fun _ => False)) (fun _ _ h => h)
    obtain ⟨hr, hlen⟩ := OE.reads
    have hnone : a1 = none → c1 = 0 := by obtain ⟨_, _, e, _, _, h, _⟩ := OE.form; cases e; exact h
    have LQ : Hid (LtOk (w1.alloc (.cells #[.int .i64 q.f, .int .i64 q.t, .slice a1 n1 c1] 27)) ⟨q.f, q.t, a1, n1, c1, q.bs⟩ (Foot o v)) := Lib.hid (by
      refine ⟨hr, hlen, hnone, fun x hx hpos e => ?_⟩
      have hx' : a1 = some x := hx
      subst hx'
      have h1 := hf x.block rfl
      have h2 := heap_lt H.out.cells
      rcases e with e | e
      · omega
      · have h3 := (World.ownsRow.lt H.out.own _ e).2
        omega)
    have HL : n1 = q.n := hlen.symm.trans HN
    have HLh := Lib.hid HL
    have HBq := HB.out q (List.mem_of_getElem? hq)
    clear hbl hq hp ho hf OE hr hlen hnone HL HN
    simp only [Lt.agg]
    go_wp2_with fail
    refine (send_ok HE.out ⟨q.f, q.t, a1, n1, c1, q.bs⟩ LQ.out hl (by have := HLh.out; show n1 ≤ _; omega)).mono ?_
    intro e w2 he
    unfold SendPost at he
    have hlh := HLh.out
    by_cases hc : 200 ≤ l.length ∨ 16384 < q.n
    · rw [if_pos (by show _ ∨ 16384 < n1; omega)] at he
      obtain ⟨rfl, hn⟩ := he
      have HNP := Lib.hid hn
      have HC := Lib.hid hc
      clear hn hc hlh
      go_wp2
      go_ret
      exact .inr ⟨k, q, HP.out, HQ.out, .inl ⟨HC.out, rfl, netPost_after BE.out HNP.out⟩⟩
    · rw [if_neg (by show ¬ (_ ∨ 16384 < n1); omega)] at he
      obtain ⟨rfl, q', e1, e2, e3, hn⟩ := he
      have HNP := Lib.hid hn
      have HC := Lib.hid hc
      have E1 := Lib.hid e1
      have E2 := Lib.hid e2
      have E3 := Lib.hid e3
      clear hn hc hlh e1 e2 e3
      go_wp2
      go_ret
      exact .inr ⟨k, q, HP.out, HQ.out, .inr ⟨HC.out, rfl, q', E1.out, E2.out, E3.out, netPost_after BE.out HNP.out⟩⟩

/-- A net made since W. -/
structure Live (W : World) (o : Nat) (v : Value) (l : List Lt) (w : World) : Prop where
  net : NetAt w 47 o v l
  below : Below W.heap.size W w
  new : W.heap.size ≤ o
  row : ∀ k, v.ownBlock = some k → W.heap.size ≤ k

theorem Live.later {W w w' : World} {o : Nat} {v : Value} {l : List Lt} (h : Live W o v l w) (b : Below w.heap.size w w') : Live W o v l w' :=
  ⟨h.net.later b, h.below.trans (b.mono h.below.size), h.new, h.row⟩

theorem Live.post {W w w' : World} {o : Nat} {v : Value} {l l' : List Lt} (h : Live W o v l w) (p : NetPost w o v l l' w') : ∃ v', Live W o v' l' w' := by
  obtain ⟨v', n, k, f, q⟩ := p
  have hs := h.below.size
  refine ⟨v', n, h.below.trans (k.under hs ?_), h.new, fun k hk => ?_⟩
  · rintro i (e | e)
    · have := h.new; omega
    · exact h.row i e
  · rcases f k hk with e | e
    · exact h.row k e
    · omega

theorem Live.made {W w w' : World} {o : Nat} (n : NetAt w' 47 o (.slice none 0 0) []) (ho : w.heap.size ≤ o) (hw : Below W.heap.size W w) (b : Below w.heap.size w w') : Live W o (.slice none 0 0) [] w' :=
  ⟨n, hw.trans (b.mono hw.size), Nat.le_trans hw.size ho, fun k hk => by simp [Value.ownBlock] at hk⟩

theorem ltOk_plain (w : World) (f t : Int) (S : Nat → Prop) : LtOk w ⟨f, t, none, 0, 0, []⟩ S :=
  ⟨⟨fun _ => rfl, fun _ h => by cases h⟩, rfl, fun _ => rfl, fun _ h => by cases h⟩

set_option maxRecDepth 100000 in
set_option maxHeartbeats 2000000 in
theorem awake_ok (w : World) : Calls Try.prog 10 #[] w fun e w' => e = .returned (.bool true) ∧ Below w.heap.size w w' := by
  go_enter Try.func10, Try.ntmps10
  go_wp2_with fail
  refine (new_ok w).mono ?_
  rintro e w1 ⟨o, rfl, h1, h2, h3⟩
  have L1 := Lib.hid (Live.made h2 h1 (Below.refl _ w) h3)
  clear h1 h2 h3
  go_wp2_with fail
  refine (send_ok L1.out.net ⟨1, 0, none, 0, 0, []⟩ (ltOk_plain _ _ _ _) (by simp) (by simp)).mono ?_
  intro e w2 he
  unfold SendPost at he
  rw [if_neg (by simp)] at he
  obtain ⟨rfl, q', _, _, _, hn⟩ := he
  obtain ⟨v', l2⟩ := L1.out.post hn
  have L2 := Lib.hid l2
  clear hn l2
  go_wp2_with fail
  refine (count_ok L2.out.net).mono ?_
  rintro e w3 ⟨rfl, rfl⟩
  go_wp2
  go_ret
  exact ⟨rfl, L2.out.below⟩
end Go.Proofs.Ytalhpicnepofaaa
