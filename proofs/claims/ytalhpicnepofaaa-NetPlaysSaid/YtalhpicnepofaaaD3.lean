/- An argument of type []Op: what its reading says of memory; few. -/
import Derived.Test.YtalhpicnepofaaaD2
namespace Go.Proofs.Ytalhpicnepofaaa
open Go.RowKit Go.ChangeShapes Go.WideShapes Go.Deep
set_option linter.unusedVariables false
set_option linter.unusedSimpArgs false

/-- A call: its kind, its number, its letter. -/
structure Ac where
  kind : Int
  i : Int
  q : Lt

structure AcAt (w : World) (b off : Nat) (p : Ac) : Prop where
  c0 : w.cell? ⟨b, off, none⟩ = some (.int .u8 p.kind)
  c1 : w.cell? ⟨b, off + 1, none⟩ = some (.int .i64 p.i)
  c2 : w.cell? ⟨b, off + 2, none⟩ = some (.int .i64 p.q.f)
  c3 : w.cell? ⟨b, off + 3, none⟩ = some (.int .i64 p.q.t)
  c4 : w.cell? ⟨b, off + 4, none⟩ = some (.slice p.q.a p.q.n p.q.c)
  kind : 0 ≤ p.kind ∧ p.kind ≤ 255
  ok : LtOk w p.q (fun _ => False)
  cap : p.q.n ≤ maxLen

def AcsAt (w : World) (a : Option Addr) (l : List Ac) : Prop :=
  (a = none → l = []) ∧ ∀ i p, l[i]? = some p → ∃ b off, a = some ⟨b, off, none⟩ ∧ AcAt w b (off + i * 5) p

theorem op_struct : ∃ f0 f1 f2 : Field, Try.prog.underlying 42 = some (.struct #[f0, f1, f2]) ∧ f0.type = 5 ∧ f1.type = 3 ∧ f2.type = 27 ∧ f0.offset = 0 ∧ f1.offset = 1 ∧ f2.offset = 2 := by
  exact ⟨_, _, _, Try.underlying42, rfl, rfl, rfl, rfl, rfl, rfl⟩
theorem letter_struct2 : ∃ f0 f1 f2 : Field, Try.prog.underlying 27 = some (.struct #[f0, f1, f2]) ∧ f0.type = 3 ∧ f1.type = 3 ∧ f2.type = 25 ∧ f0.offset = 0 ∧ f1.offset = 1 ∧ f2.offset = 2 := by
  exact ⟨_, _, _, Try.underlying27, rfl, rfl, rfl, rfl, rfl, rfl⟩
theorem cellsOf42 : Try.prog.cellsOf 42 = 5 := by kernel_rfl
theorem cellsOf3 : Try.prog.cellsOf 3 = 1 := by kernel_rfl
theorem cellsOf25 : Try.prog.cellsOf 25 = 1 := by kernel_rfl

/-- One element. -/
theorem ac_of {w : World} {H : Type} {enc : TypeId × Value → H} {n : Nat} {cs : List Value} {y : DataW H × List MemPlace} (h : DataW.trod enc Try.prog w 0 (fun _ => true) true n 42 cs = some y) :
    ∃ p : Ac, cs = [.int .u8 p.kind, .int .i64 p.i, .int .i64 p.q.f, .int .i64 p.q.t, .slice p.q.a p.q.n p.q.c] ∧ (0 ≤ p.kind ∧ p.kind ≤ 255) ∧ LtOk w p.q (fun _ => False) ∧ p.q.n ≤ maxLen := by
  obtain ⟨f0, f1, f2, hs, t0, t1, t2, o0, o1, o2⟩ := op_struct
  obtain ⟨y0, y1, y2, m, _, hl, r0, r1, r2⟩ := trod_struct3 hs h
  rw [cellsOf42] at hl
  rw [t0, o0, cellsOf5] at r0
  rw [t1, o1, cellsOf3] at r1
  rw [t2, o2, cellsOf27] at r2
  obtain ⟨g0, g1, g2, hs', t0', t1', t2', o0', o1', o2'⟩ := letter_struct2
  obtain ⟨z0, z1, z2, m', _, hl', s0, s1, s2⟩ := trod_struct3 hs' r2
  rw [t0', o0', cellsOf3] at s0
  rw [t1', o1', cellsOf3] at s1
  rw [t2', o2', cellsOf25] at s2
  match cs, hl with
  | [c0, c1, c2, c3, c4], _ =>
    simp at r0 r1 s0 s1 s2
    obtain ⟨k, hk, _, wk⟩ := DataW.trod_int Try.underlying5 r0
    obtain ⟨i, hi, _, wi⟩ := DataW.trod_int Try.underlying3 r1
    obtain ⟨f, hf, _, _⟩ := DataW.trod_int Try.underlying3 s0
    obtain ⟨t, ht, _, _⟩ := DataW.trod_int Try.underlying3 s1
    obtain ⟨a, n, c, bs, he2, hr, hlen, hb, hc, hm, hn⟩ := row_of s2
    simp at hk hi hf ht
    subst hk hi hf ht he2
    exact ⟨⟨k, i, ⟨f, t, a, n, c, bs⟩⟩, rfl, bounds_u8 wk, ⟨hr, hlen, hn, fun _ _ _ h => h⟩, by show n ≤ _; omega⟩

/-- The argument. -/
theorem ops_arg {w : World} {H : Type} {enc : TypeId × Value → H} {v : Value} {d : DataW H} {p : List MemPlace} (h : DataW.Trod enc Try.prog w 0 (fun _ => true) true 36 v d p) (hv : ∃ a n c, v = .slice a n c) :
    ∃ a n c l, v = .slice a n c ∧ AcsAt w a l ∧ l.length = n ∧ n ≤ maxLen := by
  obtain ⟨fuel, hf⟩ := h
  obtain ⟨a, n, c, rfl⟩ := hv
  rcases open_slice Try.underlying36 hf with ⟨hcs, hx⟩ | ⟨x, len, cap, m, n', D, Pl, hcs, _, hl, hm, hmm, hx, hi⟩
  · simp [Value.cells] at hcs
    obtain ⟨rfl, rfl, rfl⟩ := hcs
    exact ⟨none, 0, 0, [], rfl, ⟨fun _ => rfl, fun i q hq => by simp at hq⟩, rfl, Nat.zero_le _⟩
  · simp [Value.cells] at hcs
    obtain ⟨rfl, rfl, rfl⟩ := hcs
    simp at hmm
    subst hmm
    rw [cellsOf42] at hi
    have hq : ∀ i, ∃ p : Ac, i < n → (∃ b off, x = ⟨b, off, none⟩ ∧ AcAt w b (off + i * 5) p) := by
      intro i
      by_cases hin : i < n
      · obtain ⟨cs', hc, ht⟩ := hi i (by omega)
        obtain ⟨p, hcs, hk, hok, hcap⟩ := ac_of ht
        obtain ⟨_, hcl, hat⟩ := World.cells?_some hc
        obtain ⟨cs0, hc0, ht0⟩ := hi 0 (by omega)
        obtain ⟨_, hcl0, hat0⟩ := World.cells?_some hc0
        have hx0 : ∃ b off, x = ⟨b, off, none⟩ := by
          have h1 := hat0 0 (by omega)
          obtain ⟨b, off, s⟩ := x
          cases s with
          | none => exact ⟨b, off, rfl⟩
          | some s => simp [Addr.add, World.cell?] at h1; split at h1 <;> simp_all
        obtain ⟨b, off, rfl⟩ := hx0
        subst hcs
        have e := fun j (hj : j < 5) => hat j hj
        have e0 := e 0 (by omega)
        have e1 := e 1 (by omega)
        have e2 := e 2 (by omega)
        have e3 := e 3 (by omega)
        have e4 := e 4 (by omega)
        simp only [Addr.add_lit] at e0 e1 e2 e3 e4
        exact ⟨p, fun _ => ⟨b, off, rfl, ⟨e0, e1, e2, e3, e4, hk, hok, hcap⟩⟩⟩
      · exact ⟨⟨0, 0, ⟨0, 0, none, 0, 0, []⟩⟩, fun h => absurd h hin⟩
    obtain ⟨Q, hQ⟩ : ∃ Q : Nat → Ac, ∀ i, i < n → (∃ b off, x = ⟨b, off, none⟩ ∧ AcAt w b (off + i * 5) (Q i)) := ⟨fun i => (hq i).choose, fun i hi => (hq i).choose_spec hi⟩
    refine ⟨some x, n, _, (List.range n).map Q, rfl, ⟨fun h => (by cases h), ?_⟩, by simp, by omega⟩
    intro i q hqi
    have hin : i < n := by have := (List.getElem?_eq_some_iff.1 hqi).1; simpa using this
    simp [List.getElem?_range hin] at hqi
    subst hqi
    obtain ⟨b, off, e, h⟩ := hQ i hin
    exact ⟨b, off, by rw [e], h⟩

/-- The element at hand. -/
theorem ac_here {w : World} {a : Option Addr} {l : List Ac} {k : Nat} (h : AcsAt w a l) (hk : k < l.length) : ∃ b off p, a = some ⟨b, off, none⟩ ∧ l[k]? = some p ∧ AcAt w b (off + k * 5) p := by
  have hq : l[k]? = some l[k] := List.getElem?_eq_getElem hk
  obtain ⟨b, off, e, hp⟩ := h.2 k _ hq
  exact ⟨b, off, _, e, hq, hp⟩

def FewPost (w : World) (nl : Nat) (e : Ending) (w' : World) : Prop := ∃ r : Bool, e = .returned (.bool r) ∧ w = w' ∧ (r = true → nl ≤ 300)

set_option maxRecDepth 100000 in
set_option maxHeartbeats 4000000 in
theorem few_ok {w : World} (al : Option Addr) (nl cl : Nat) (l : List Ac) (hL : AcsAt w al l) (hll : l.length = nl) (hbig : nl ≤ 9223372036854775807) :
    Calls Try.prog 15 #[.slice al nl cl] w (FewPost w nl) := by
  have PL := Lib.hid hL
  have LL := Lib.hid hll
  clear hL hll
  go_enter Try.func15, Try.ntmps15
  go_wp2
  go_loop [3, 4] (fun t3 t4 => ∃ k m : Nat, t4 = .int .i64 k ∧ t3 = .int .i64 m ∧ k ≤ nl ∧ k ≤ 400 ∧ m ≤ 20000 * k) (fun _ i => nl - (intOf i).toNat)
  case atStart => exact ⟨0, 0, rfl, rfl, Nat.zero_le _, by omega, by omega⟩
  case round =>
    obtain ⟨k, m, rfl, rfl, hk, hk50, hm⟩ := hrel
    by_cases hlt : k < nl
    · by_cases h50 : k < 400
      · obtain ⟨bl, off, q, rfl, hq, hpa⟩ := ac_here PL.out (k := k) (by rw [LL.out]; exact hlt)
        have d2 := hpa.c4
        have hqn := hpa.cap
        unfold maxLen at hqn
        have hqm : q.q.n ≤ 9223372036854775807 := by omega
        clear hpa hq hqn
        by_cases h6 : 20000 < q.q.n
        · go_wp2
          refine ⟨⟨k + 1, m + 20000, rfl, rfl, by omega, by omega, by omega⟩, by simp [intOf]; omega⟩
        · go_wp2
          refine ⟨⟨k + 1, m + q.q.n, rfl, rfl, by omega, by omega, by omega⟩, by simp [intOf]; omega⟩
      · by_cases h4 : nl ≤ 300
        · omega
        · go_wp2
          go_ret
          exact ⟨false, rfl, rfl, fun h => by cases h⟩
    · by_cases h4 : nl ≤ 300
      · go_wp2
        go_ret
        exact ⟨_, rfl, rfl, fun _ => h4⟩
      · go_wp2
        go_ret
        exact ⟨false, rfl, rfl, fun h => by cases h⟩
end Go.Proofs.Ytalhpicnepofaaa
