/- A net and its reference, side by side. -/
import Derived.Test.YtalhpicnepofaaaD3
namespace Go.Proofs.Ytalhpicnepofaaa
open Go.RowKit
set_option linter.unusedVariables false
set_option linter.unusedSimpArgs false

abbrev Key := Int × Int × List Int

/-- Letters of a size. -/
def KsOk (ks : List Key) : Prop := ks.length ≤ 200 ∧ ∀ k ∈ ks, k.2.2.length ≤ 16384

def sendB (ks : List Key) (key : Key) : Bool := decide ¬ (200 ≤ ks.length ∨ 16384 < key.2.2.length)
def sendK (ks : List Key) (key : Key) : List Key := if 200 ≤ ks.length ∨ 16384 < key.2.2.length then ks else ks ++ [key]

theorem KsOk.send {ks : List Key} (h : KsOk ks) (key : Key) : KsOk (sendK ks key) := by
  unfold sendK
  by_cases hc : 200 ≤ ks.length ∨ 16384 < key.2.2.length
  · rw [if_pos hc]; exact h
  · rw [if_neg hc]
    refine ⟨by simp; omega, fun k hk => ?_⟩
    rcases List.mem_append.1 hk with e | e
    · exact h.2 k e
    · simp at e; rw [e]; omega
theorem KsOk.erase {ks : List Key} (h : KsOk ks) (k : Nat) : KsOk (ks.eraseIdx k) :=
  ⟨Nat.le_trans (List.length_eraseIdx_le ks k) h.1, fun q hq => h.2 q (List.mem_of_mem_eraseIdx hq)⟩
theorem KsOk.set {ks : List Key} (h : KsOk ks) (k : Nat) (key : Key) (hk : key.2.2.length ≤ 16384) : KsOk (ks.set k key) := by
  refine ⟨by simp; exact h.1, fun q hq => ?_⟩
  rcases List.mem_or_eq_of_mem_set hq with e | e
  · exact h.2 q e
  · rw [e]; exact hk

/-- The two, their letters named. -/
structure PrL (W w : World) (o : Nat) (v : Value) (l : List Lt) (o' : Nat) (v' : Value) (l' : List Lt) : Prop where
  net : NetAt w 47 o v l
  ref : NetAt w 40 o' v' l'
  below : Below W.heap.size W w
  newN : ∀ i, Foot o v i → W.heap.size ≤ i
  newR : ∀ i, Foot o' v' i → W.heap.size ≤ i
  disj : ∀ i, Foot o v i → ¬ Foot o' v' i
  lts : ∀ q ∈ l, ∀ x, q.a = some x → 0 < q.n → ¬ Foot o' v' x.block
  old : ∀ q ∈ l', ∀ x, q.a = some x → 0 < q.n → x.block < W.heap.size

theorem NetAt.footlt {w : World} {T o : Nat} {v : Value} {l : List Lt} (h : NetAt w T o v l) {i : Nat} (hi : Foot o v i) : i < w.heap.size := by
  rcases hi with e | e
  · rw [e]; exact heap_lt h.cells
  · exact (World.ownsRow.lt h.own i e).2

theorem PrL.later {W w w' : World} {o o' : Nat} {v v' : Value} {l l' : List Lt} (h : PrL W w o v l o' v' l') (b : Below w.heap.size w w') : PrL W w' o v l o' v' l' :=
  ⟨h.net.later b, h.ref.later b, h.below.trans (b.mono h.below.size), h.newN, h.newR, h.disj, h.lts, h.old⟩

theorem foot_new {w : World} {o : Nat} {v v1 : Value} (f : Fresh w v v1) {i : Nat} (hi : Foot o v1 i) : Foot o v i ∨ w.heap.size ≤ i := by
  rcases hi with e | e
  · exact .inl (.inl e)
  · exact (f i e).imp .inr id

theorem PrL.nstep {W w w' : World} {o o' : Nat} {v v' : Value} {l l' l1 : List Lt} (h : PrL W w o v l o' v' l') (p : NetPost w o v l l1 w') : ∃ v1, PrL W w' o v1 l1 o' v' l' ∧ Keeps w w' (Foot o v) := by
  obtain ⟨v1, n, k, f, hq⟩ := p
  have hs := h.below.size
  refine ⟨v1, ⟨n, h.ref.keeps k (fun i hi e => h.disj i e hi) (fun q hq x hx hp e => by have := h.old q hq x hx hp; have := h.newN _ e; omega), h.below.trans (k.under hs h.newN), fun i hi => ?_, h.newR, fun i hi hr => ?_, fun q hq1 x hx hp hr => ?_, h.old⟩, k⟩
  · rcases foot_new f hi with e | e
    · exact h.newN i e
    · omega
  · rcases foot_new f hi with e | e
    · exact h.disj i e hr
    · have := h.ref.footlt hr; omega
  · rcases hq q hq1 with e | e
    · exact h.lts q e x hx hp hr
    · have := e x hx hp; have := h.ref.footlt hr; omega

theorem PrL.rstep {W w w' : World} {o o' : Nat} {v v' : Value} {l l' l1 : List Lt} (h : PrL W w o v l o' v' l') (p : RefPost w o' v' l1 w') (hold : ∀ q ∈ l1, ∀ x, q.a = some x → 0 < q.n → x.block < W.heap.size) : ∃ v1, PrL W w' o v l o' v1 l1 ∧ Keeps w w' (Foot o' v') := by
  obtain ⟨v1, n, k, f⟩ := p
  have hs := h.below.size
  refine ⟨v1, ⟨h.net.keeps k h.disj h.lts, n, h.below.trans (k.under hs h.newR), h.newN, fun i hi => ?_, fun i hi hr => ?_, fun q hq1 x hx hp hr => ?_, hold⟩, k⟩
  · rcases foot_new f hi with e | e
    · exact h.newR i e
    · omega
  · rcases foot_new f hr with e | e
    · exact h.disj i hi e
    · have := h.net.footlt hi; omega
  · rcases foot_new f hr with e | e
    · exact h.lts q hq1 x hx hp e
    · have := (h.net.lts q hq1).lt hx hp; omega

/-- The two, by what is told of their letters. -/
def Pr (W w : World) (o : Nat) (v : Value) (ks : List Key) (o' : Nat) (v' : Value) (ks' : List Key) : Prop :=
  ∃ l l', PrL W w o v l o' v' l' ∧ l.map Lt.key = ks ∧ l'.map Lt.key = ks' ∧ KsOk ks ∧ KsOk ks'

theorem Pr.later {W w w' : World} {o o' : Nat} {v v' : Value} {ks ks' : List Key} (h : Pr W w o v ks o' v' ks') (b : Below w.heap.size w w') : Pr W w' o v ks o' v' ks' := by
  obtain ⟨l, l', p, e⟩ := h
  exact ⟨l, l', p.later b, e⟩

theorem map_erase (l : List Lt) (k : Nat) : (l.eraseIdx k).map Lt.key = (l.map Lt.key).eraseIdx k := by
  rw [List.eraseIdx_eq_take_drop_succ, List.eraseIdx_eq_take_drop_succ, List.map_append, List.map_take, List.map_drop]

theorem key_len {w : World} {q : Lt} {S : Nat → Prop} (h : LtOk w q S) : q.n = q.key.2.2.length := h.len.symm

theorem small_of {W w : World} {o o' : Nat} {v v' : Value} {l l' : List Lt} (h : PrL W w o v l o' v' l') (hk : KsOk (l.map Lt.key)) : l.length ≤ 200 ∧ ∀ q ∈ l, q.n ≤ 140737488355328 := by
  refine ⟨by have := hk.1; simpa using this, fun q hq => ?_⟩
  have h1 := hk.2 q.key (List.mem_map_of_mem hq)
  have h2 := key_len (h.net.lts q hq)
  omega

/-- A letter of the argument's. -/
def ArgLt (W w : World) (q : Lt) : Prop := LtOk w q (fun k => W.heap.size ≤ k)

theorem n_send {W w : World} {o o' : Nat} {v v' : Value} {ks ks' : List Key} (h : Pr W w o v ks o' v' ks') (q : Lt) (hq : LtOk w q (Foot o v)) (hm : q.n ≤ 9223372036854775807) :
    Calls Try.prog 8 #[.pointer (some ⟨o, 0, none⟩), q.agg] w fun e w' => e = .returned (.bool (sendB ks q.key)) ∧ ∃ v1, Pr W w' o v1 (sendK ks q.key) o' v' ks' ∧ Keeps w w' (Foot o v) := by
  obtain ⟨l, l', p, rfl, e2, k1, k2⟩ := h
  obtain ⟨hl, hb⟩ := small_of p k1
  have hn := key_len hq
  refine (send_ok p.net q hq (by omega) hm).mono ?_
  intro e w' he
  unfold SendPost at he
  by_cases hc : 200 ≤ l.length ∨ 16384 < q.n
  · rw [if_pos hc] at he
    obtain ⟨rfl, hp⟩ := he
    obtain ⟨v1, p1, kp⟩ := p.nstep hp
    have hc' : 200 ≤ (l.map Lt.key).length ∨ 16384 < q.key.2.2.length := by rw [List.length_map, ← hn]; exact hc
    refine ⟨by unfold sendB; rw [decide_eq_false (fun h => h hc')], v1, ⟨l, l', p1, ?_, e2, ?_, k2⟩, kp⟩
    · unfold sendK; rw [if_pos hc']
    · exact k1.send _
  · rw [if_neg hc] at he
    obtain ⟨rfl, q', f1, f2, f3, hp⟩ := he
    obtain ⟨v1, p1, kp⟩ := p.nstep hp
    have hc' : ¬ (200 ≤ (l.map Lt.key).length ∨ 16384 < q.key.2.2.length) := by rw [List.length_map, ← hn]; exact hc
    refine ⟨by unfold sendB; rw [decide_eq_true hc'], v1, ⟨l ++ [q'], l', p1, ?_, e2, k1.send _, k2⟩, kp⟩
    unfold sendK
    rw [if_neg hc']
    simp [Lt.key, f1, f2, f3]

theorem r_send {W w : World} {o o' : Nat} {v v' : Value} {ks ks' : List Key} (h : Pr W w o v ks o' v' ks') (q : Lt) (hq : ArgLt W w q) :
    Calls Try.prog 17 #[.pointer (some ⟨o', 0, none⟩), q.agg] w fun e w' => e = .returned (.bool (sendB ks' q.key)) ∧ ∃ v1, Pr W w' o v ks o' v1 (sendK ks' q.key) ∧ Keeps w w' (Foot o' v') := by
  obtain ⟨l, l', p, e1, rfl, k1, k2⟩ := h
  have hl : l'.length ≤ 200 := by have := k2.1; simpa using this
  have hn := key_len hq
  refine (rsend_ok p.ref q ⟨hq.reads, hq.len, hq.none, fun x hx hp e => hq.away x hx hp (p.newR _ e)⟩ (by omega)).mono ?_
  intro e w' he
  unfold RSendPost at he
  by_cases hc : 200 ≤ l'.length ∨ 16384 < q.n
  · rw [if_pos hc] at he
    obtain ⟨rfl, hp⟩ := he
    obtain ⟨v1, p1, kp⟩ := p.rstep hp p.old
    have hc' : 200 ≤ (l'.map Lt.key).length ∨ 16384 < q.key.2.2.length := by rw [List.length_map, ← hn]; exact hc
    refine ⟨by unfold sendB; rw [decide_eq_false (fun h => h hc')], v1, ⟨l, l', p1, e1, ?_, k1, k2.send _⟩, kp⟩
    unfold sendK; rw [if_pos hc']
  · rw [if_neg hc] at he
    obtain ⟨rfl, hp⟩ := he
    obtain ⟨v1, p1, kp⟩ := p.rstep hp (fun r hr x hx hp0 => by
      rcases List.mem_append.1 hr with e | e
      · exact p.old r e x hx hp0
      · simp at e
        subst e
        have := hq.away x hx hp0
        simp at this
        omega)
    have hc' : ¬ (200 ≤ (l'.map Lt.key).length ∨ 16384 < q.key.2.2.length) := by rw [List.length_map, ← hn]; exact hc
    refine ⟨by unfold sendB; rw [decide_eq_true hc'], v1, ⟨l, l' ++ [q], p1, e1, ?_, k1, k2.send _⟩, kp⟩
    unfold sendK
    rw [if_neg hc']
    simp

def NTake (W w : World) (o : Nat) (v : Value) (ks : List Key) (o' : Nat) (v' : Value) (ks' : List Key) (i : Int) (e : Ending) (w' : World) : Prop :=
  Keeps w w' (Foot o v) ∧ ((ks = [] ∧ e = .returned (.tuple #[zeroLt.agg, .bool false]) ∧ ∃ v1, Pr W w' o v1 [] o' v' ks') ∨
    ∃ (k : Nat) (q : Lt), placeOf ks.length i = k ∧ ks[k]? = some q.key ∧ e = .returned (.tuple #[q.agg, .bool true]) ∧ LtOk w' q (Foot o' v') ∧ ∃ v1, Pr W w' o v1 (ks.eraseIdx k) o' v' ks')

theorem own_lt {w : World} {f t : Int} {a : Option Addr} {n c : Nat} {bs : List Int} {S : Nat → Prop} (h : Own w (.slice a n c) bs) (hn : ∀ j, (Value.slice a n c).ownBlock = some j → ¬ S j) : LtOk w ⟨f, t, a, n, c, bs⟩ S := by
  obtain ⟨hr, hlen⟩ := h.reads
  have hnone : a = none → c = 0 := by obtain ⟨_, _, e, _, _, h, _⟩ := h.form; cases e; exact h
  refine ⟨hr, hlen, hnone, fun x hx hp e => ?_⟩
  have hx' : a = some x := hx
  subst hx'
  exact hn x.block rfl e

theorem n_take {W w : World} {o o' : Nat} {v v' : Value} {ks ks' : List Key} (h : Pr W w o v ks o' v' ks') (i : Int) :
    Calls Try.prog 9 #[.pointer (some ⟨o, 0, none⟩), .int .i64 i] w (NTake W w o v ks o' v' ks' i) := by
  obtain ⟨l, l', p, rfl, e2, k1, k2⟩ := h
  obtain ⟨hl, hb⟩ := small_of p k1
  refine (take_ok p.net i (by omega) hb).mono ?_
  rintro e w' (⟨h0, rfl, hp⟩ | ⟨k, q, a, n, c, hp, hq, rfl, ho, hf, hn⟩)
  · obtain ⟨v1, p1, kp⟩ := p.nstep hp
    exact ⟨kp, .inl ⟨by rw [h0]; rfl, rfl, v1, [], l', p1, rfl, e2, ⟨by simp, fun _ h => by cases h⟩, k2⟩⟩
  · obtain ⟨v1, p1, kp⟩ := p.nstep hn
    refine ⟨kp, .inr ⟨k, _, by rw [List.length_map]; exact hp, ?_, rfl, own_lt ho (fun j hj e => by have := hf j hj; have := p.ref.footlt e; omega), v1, l.eraseIdx k, l', p1, ?_, e2, k1.erase k, k2⟩⟩
    · rw [List.getElem?_map, hq]; rfl
    · exact map_erase l k

def RTake (W w : World) (o : Nat) (v : Value) (ks : List Key) (o' : Nat) (v' : Value) (ks' : List Key) (i : Int) (e : Ending) (w' : World) : Prop :=
  Keeps w w' (Foot o' v') ∧ ((ks' = [] ∧ e = .returned (.tuple #[zeroLt.agg, .bool false]) ∧ ∃ v1, Pr W w' o v ks o' v1 []) ∨
    ∃ (k : Nat) (q : Lt), placeOf ks'.length i = k ∧ ks'[k]? = some q.key ∧ e = .returned (.tuple #[q.agg, .bool true]) ∧ LtOk w' q (fun _ => False) ∧ ∃ v1, Pr W w' o v ks o' v1 (ks'.eraseIdx k))

theorem r_take {W w : World} {o o' : Nat} {v v' : Value} {ks ks' : List Key} (h : Pr W w o v ks o' v' ks') (i : Int) :
    Calls Try.prog 18 #[.pointer (some ⟨o', 0, none⟩), .int .i64 i] w (RTake W w o v ks o' v' ks' i) := by
  obtain ⟨l, l', p, e1, rfl, k1, k2⟩ := h
  have hl : l'.length ≤ 200 := by have := k2.1; simpa using this
  refine (rtake_ok p.ref i (by omega)).mono ?_
  rintro e w' (⟨h0, rfl, hp⟩ | ⟨k, q, hp, hq, rfl, hn⟩)
  · obtain ⟨v1, p1, kp⟩ := p.rstep hp (fun _ h => by cases h)
    exact ⟨kp, .inl ⟨by rw [h0]; rfl, rfl, v1, l, [], p1, e1, rfl, k1, ⟨by simp, fun _ h => by cases h⟩⟩⟩
  · obtain ⟨v1, p1, kp⟩ := p.rstep hn (fun r hr => p.old r (List.mem_of_mem_eraseIdx hr))
    have hw := p.ref.lts q (List.mem_of_getElem? hq)
    have hw2 := hw.keeps kp (fun x hx hn e => hw.away x hx hn e)
    refine ⟨kp, .inr ⟨k, q, by rw [List.length_map]; exact hp, by rw [List.getElem?_map, hq]; rfl, rfl, ⟨hw2.reads, hw2.len, hw2.none, fun _ _ _ h => h⟩, v1, l, l'.eraseIdx k, p1, e1, ?_, k1, k2.erase k⟩⟩
    exact map_erase l' k
end Go.Proofs.Ytalhpicnepofaaa
