/- An argument of type []Part: what its reading says of memory. -/
import Derived.Test.YtjpnbgimhmgooaaC1
import Derived.ProofKit
import Derived.OpenShut
import Derived.ChangeOld
import Derived.Deep.Slices
import Derived.Deep.Fields
import Derived.ChangeSame
namespace Go.Proofs.Ytjpnbgimhmgooaa
open Go.RowKit Go.ChangeShapes Go.WideShapes Go.Deep
set_option linter.unusedVariables false

/-- A part: its kind, its number, its bytes as a slice value, and what they are. -/
structure Pt where
  kind : Int
  x : Nat
  a : Option Addr
  n : Nat
  c : Nat
  bs : List Int

/-- A part's fields are fine, and its bytes stand in w. -/
structure PtOk (w : World) (q : Pt) : Prop where
  reads : Reads w q.a q.bs
  len : q.bs.length = q.n
  bytes : Bytes q.bs
  cap : q.n ≤ q.c
  max : q.c ≤ maxLen
  none : q.a = none → q.c = 0
  kind : Byte q.kind
  num : q.x < 18446744073709551616

structure PtAt (w : World) (b off : Nat) (q : Pt) : Prop where
  c0 : w.cell? ⟨b, off, none⟩ = some (.int .u8 q.kind)
  c1 : w.cell? ⟨b, off + 1, none⟩ = some (.int .u64 q.x)
  c2 : w.cell? ⟨b, off + 2, none⟩ = some (.slice q.a q.n q.c)
  ok : PtOk w q

def PtsAt (w : World) (a : Option Addr) (l : List Pt) : Prop :=
  (a = none → l = []) ∧ ∀ i q, l[i]? = some q → ∃ b off, a = some ⟨b, off, none⟩ ∧ PtAt w b (off + i * 3) q

section
variable {H : Type} {enc : TypeId × Value → H} {P : Program} {w : World} {base : Nat} {spare : Nat → Bool} {held : Bool}
theorem open_slice_fields {t e : TypeId} {fs : Array Field} {fuel : Nat} {cs : List Value} {x : DataW H × List MemPlace} (ht : P.underlying t = some (.slice e)) (he : P.underlying e = some (.struct fs))
    (hone : oneCellFields P fs = true) (hC : P.cellsOf e = fs.size) (h : DataW.trod enc P w base spare held fuel t cs = some x) :
    (cs = [.slice none 0 0] ∧ x = (.nil, [])) ∨
    ∃ (a : Addr) (len cap m : Nat) (D : Nat → DataW H) (Pl : Nat → List MemPlace), cs = [.slice (some a) len cap] ∧ base ≤ a.block ∧ len ≤ cap ∧ cap ≤ maxLen ∧ m = (if spare a.block then cap else len) ∧
      x = (.slice ((List.range len).map D) ((List.range (m - len)).map fun j => D (len + j)), MemPlace.row a (m * fs.size) ++ (List.range m).flatMap Pl) ∧
      ∀ i, i < m → ∃ (ys : List (DataW H × List MemPlace)) (n : Nat), D i = .agg (ys.map (·.1)) ∧ Pl i = ys.flatMap (·.2) ∧ ys.length = fs.size ∧
        ∀ (j : Nat) (f : Field), fs[j]? = some f → ∃ (v : Value) (y : DataW H × List MemPlace), w.cell? (a.add (i * fs.size + j)) = some v ∧ ys[j]? = some y ∧ DataW.trod enc P w base spare held n f.type [v] = some y := by
  rcases open_slice ht h with h0 | ⟨a, len, cap, m, n, D, Pl, hcs, hb, hl, hm, hmm, hx, hi⟩
  · exact .inl h0
  · refine .inr ⟨a, len, cap, m, D, Pl, hcs, hb, hl, hm, hmm, by rw [hC] at hx; exact hx, fun i him => ?_⟩
    obtain ⟨cs', hc, ht'⟩ := hi i him
    rw [hC] at hc
    obtain ⟨ys, n', hn', hy, hlen, hyl, hf⟩ := DataW.trod_struct he ht'
    obtain ⟨_, hcl, hat⟩ := World.cells?_some hc
    simp only [Prod.mk.injEq] at hy
    refine ⟨ys, n', hy.1, hy.2, hyl, fun j f hj => ?_⟩
    obtain ⟨ho, hk⟩ := hone_of hone j f hj
    have hjl : j < fs.size := (Array.getElem?_eq_some_iff.1 hj).1
    have hcell := hat j hjl
    have hv : cs'[j]? = some (cs'[j]'(by omega)) := List.getElem?_eq_getElem (by omega)
    have h1 := hf j f hj
    rw [ho, hk] at h1
    have hone' : (cs'.drop j).take 1 = [cs'[j]'(by omega)] := by
      rw [List.drop_eq_getElem_cons (by omega)]
      rfl
    rw [hone'] at h1
    have hys : ys[j]? = some (ys[j]'(by omega)) := List.getElem?_eq_getElem (by omega)
    refine ⟨_, _, ?_, hys, h1.trans hys⟩
    rw [← Go.Deep.add_add, hcell, hv]
end

theorem part_struct : ∃ f0 f1 f2 : Field, Try.prog.underlying 42 = some (.struct #[f0, f1, f2]) ∧ f0.type = 5 ∧ f1.type = 40 ∧ f2.type = 22 ∧ oneCellFields Try.prog #[f0, f1, f2] = true := by
  refine ⟨_, _, _, Try.underlying42, rfl, rfl, rfl, by kernel_rfl⟩
theorem cellsOf42 : Try.prog.cellsOf 42 = 3 := by kernel_rfl
theorem cellsOf5 : Try.prog.cellsOf 5 = 1 := by kernel_rfl

theorem addr_of_cell {w : World} {a : Addr} {n : Nat} {v : Value} (h : w.cell? (a.add n) = some v) : ∃ b off, a.add n = ⟨b, off + n, none⟩ ∧ a.block = b ∧ (a.spot = none → a = ⟨b, off, none⟩) := by
  obtain ⟨b, off, s⟩ := a
  refine ⟨b, off, ?_, rfl, fun e => by simp at e; subst e; rfl⟩
  unfold Addr.add at h ⊢
  by_cases hn : n = 0
  · rw [if_pos hn] at h ⊢
    subst hn
    cases s with
    | none => rfl
    | some s => simp [World.cell?] at h; split at h <;> simp_all
  · rw [if_neg hn]

theorem row_of {w : World} {H : Type} {enc : TypeId × Value → H} {fuel : Nat} {v : Value} {y : DataW H × List MemPlace} (h : DataW.trod enc Try.prog w 0 (fun _ => true) true fuel 22 [v] = some y) :
    ∃ a n c bs, v = .slice a n c ∧ Reads w a bs ∧ bs.length = n ∧ Bytes bs ∧ n ≤ c ∧ c ≤ maxLen ∧ (a = none → c = 0) ∧ n ≤ Rows.uptoBulk y.1 := by
  rcases open_ints Try.underlying22 Try.underlying5 cellsOf5 h with ⟨hcs, rfl⟩ | ⟨x, l, c, zs, hcs, _, hl, hm, hz, rfl, hc, hw⟩
  · simp at hcs
    subst hcs
    exact ⟨none, 0, 0, [], rfl, Reads.nil w none, rfl, (fun b hb => by cases hb), Nat.le_refl _, Nat.zero_le _, fun _ => rfl, Nat.zero_le _⟩
  · simp at hcs
    subst hcs
    simp at hz
    refine ⟨some x, l, c, zs.take l, rfl, ⟨fun h => (by cases h), ?_⟩, by simp; omega, ?_, hl, hm, fun h => (by cases h), ?_⟩
    · intro y hy i hi
      cases hy
      simp at hi
      rw [hc i (by omega)]
      have hin : i < l := by omega
      simp [List.getD, hin]
    · intro b hb
      exact bounds_u8 (hw b (List.mem_of_mem_take hb))
    · simp only [Rows.uptoBulk]
      have : ∀ (zs : List Int), zs.length ≤ Rows.uptoBulkAll (H := H) (lits .u8 zs) := by
        intro zs
        induction zs with
        | nil => simp
        | cons z zs ih => simp only [lits, List.map_cons, Rows.uptoBulkAll, Rows.uptoBulk, List.length_cons] at ih ⊢; omega
      have := this (zs.take l)
      simp at this
      omega

theorem row_arg {w : World} {H : Type} {enc : TypeId × Value → H} {v : Value} {d : DataW H} {p : List MemPlace} (h : DataW.Trod enc Try.prog w 0 (fun _ => true) true 22 v d p) (hv : ∃ a n c, v = .slice a n c) :
    ∃ a n c bs, v = .slice a n c ∧ Reads w a bs ∧ bs.length = n ∧ Bytes bs ∧ n ≤ c ∧ c ≤ maxLen ∧ (a = none → c = 0) ∧ n ≤ Rows.uptoBulk d := by
  obtain ⟨fuel, hf⟩ := h
  obtain ⟨a, n, c, rfl⟩ := hv
  exact row_of (y := (d, p)) (by simpa [Value.cells] using hf)

/-- How many bytes the parts have, all together. -/
def ptSum : List Pt → Nat
  | [] => 0
  | q :: l => q.bs.length + ptSum l

theorem bulkAll_append {H : Type} (l r : List (DataW H)) : Rows.uptoBulkAll (l ++ r) = Rows.uptoBulkAll l + Rows.uptoBulkAll r := by
  induction l with
  | nil => simp [Rows.uptoBulkAll]
  | cons x l ih => simp only [List.cons_append, Rows.uptoBulkAll, ih]; omega

/-- One element. -/
theorem part_of {w : World} {H : Type} {enc : TypeId × Value → H} {b off n : Nat} {D : DataW H} {ys : List (DataW H × List MemPlace)} {fs : Array Field} (hfs : ∃ f0 f1 f2 : Field, fs = #[f0, f1, f2] ∧ f0.type = 5 ∧ f1.type = 40 ∧ f2.type = 22)
    (hD : D = .agg (ys.map (·.1))) (hl : ys.length = fs.size)
    (h : ∀ (j : Nat) (f : Field), fs[j]? = some f → ∃ (v : Value) (y : DataW H × List MemPlace), w.cell? ⟨b, off + j, none⟩ = some v ∧ ys[j]? = some y ∧ DataW.trod enc Try.prog w 0 (fun _ => true) true n f.type [v] = some y) :
    ∃ q : Pt, PtAt w b off q ∧ q.bs.length ≤ Rows.uptoBulk D := by
  obtain ⟨f0, f1, f2, rfl, t0, t1, t2⟩ := hfs
  obtain ⟨v0, y0, h0, e0, r0⟩ := h 0 f0 rfl
  obtain ⟨v1, y1, h1, e1, r1⟩ := h 1 f1 rfl
  obtain ⟨v2, y2, h2, e2, r2⟩ := h 2 f2 rfl
  rw [t0] at r0
  rw [t1] at r1
  rw [t2] at r2
  obtain ⟨k, hk, _, wk⟩ := DataW.trod_int Try.underlying5 r0
  obtain ⟨x, hx, _, wx⟩ := DataW.trod_int Try.underlying40 r1
  obtain ⟨a, m, c, bs, hv, hr, hlen, hb, hc, hm, hn, hbulk⟩ := row_of r2
  simp at hk hx
  subst hk hx hv
  have bx : 0 ≤ x ∧ x ≤ 18446744073709551615 := by simpa [Lit.wf, IntKind.min, IntKind.max, IntKind.signed, IntKind.bits] using wx
  obtain ⟨xn, rfl⟩ : ∃ xn : Nat, x = xn := ⟨x.toNat, by omega⟩
  refine ⟨⟨k, xn, a, m, c, bs⟩, ⟨h0, h1, h2, ⟨hr, hlen, hb, hc, hm, hn, bounds_u8 wk, by show xn < _; omega⟩⟩, ?_⟩
  simp only
  match ys, hl with
  | [z0, z1, z2], _ =>
    simp at e2
    subst e2
    rw [hD, hlen]
    simp only [List.map_cons, List.map_nil, Rows.uptoBulk, Rows.uptoBulkAll]
    omega

theorem range_bulk {H : Type} (D : Nat → DataW H) (Q : Nat → Pt) : ∀ (n k : Nat), (∀ i, i < n → (Q (k + i)).bs.length ≤ Rows.uptoBulk (D (k + i))) → ptSum ((List.range' k n).map Q) ≤ Rows.uptoBulkAll ((List.range' k n).map D)
  | 0, k, _ => by simp [ptSum]
  | n + 1, k, h => by
    have h0 := h 0 (by omega)
    have hr := range_bulk D Q n (k + 1) (fun i hi => by have := h (i + 1) (by omega); rwa [show k + 1 + i = k + (i + 1) by omega])
    simp only [List.range'_succ, List.map_cons, ptSum, Rows.uptoBulkAll]
    simp only [Nat.add_zero] at h0
    omega

/-- The argument. -/
theorem parts_arg {w : World} {H : Type} {enc : TypeId × Value → H} {v : Value} {d : DataW H} {p : List MemPlace} (h : DataW.Trod enc Try.prog w 0 (fun _ => true) true 36 v d p) (hv : ∃ a n c, v = .slice a n c) :
    ∃ a n c l, v = .slice a n c ∧ PtsAt w a l ∧ l.length = n ∧ n ≤ c ∧ c ≤ maxLen ∧ (a = none → c = 0) ∧ ptSum l ≤ Rows.uptoBulk d := by
  obtain ⟨fuel, hf⟩ := h
  obtain ⟨a, n, c, rfl⟩ := hv
  obtain ⟨f0, f1, f2, hs, t0, t1, t2, hone⟩ := part_struct
  rcases open_slice_fields Try.underlying36 hs hone (by rw [cellsOf42]; rfl) hf with ⟨hcs, hx⟩ | ⟨x, len, cap, m, D, Pl, hcs, _, hl, hm, hmm, hx, hi⟩
  · simp [Value.cells] at hcs
    obtain ⟨rfl, rfl, rfl⟩ := hcs
    exact ⟨none, 0, 0, [], rfl, ⟨fun _ => rfl, fun i q hq => by simp at hq⟩, rfl, Nat.le_refl _, Nat.zero_le _, fun _ => rfl, Nat.zero_le _⟩
  · simp [Value.cells] at hcs
    obtain ⟨rfl, rfl, rfl⟩ := hcs
    simp at hmm
    subst hmm
    have hq : ∀ i, ∃ q : Pt, i < n → (∃ b off, x = ⟨b, off, none⟩ ∧ PtAt w b (off + i * 3) q) ∧ q.bs.length ≤ Rows.uptoBulk (D i) := by
      intro i
      by_cases hin : i < n
      · obtain ⟨ys, k, hD, _, hyl, hf⟩ := hi i (by omega)
        have hx0 : ∃ b off, x = ⟨b, off, none⟩ := by
          obtain ⟨v, y, hc, _⟩ := hf 0 f0 rfl
          obtain ⟨b, off, s⟩ := x
          cases s with
          | none => exact ⟨b, off, rfl⟩
          | some s =>
            by_cases h0 : i = 0
            · subst h0; simp [Addr.add, World.cell?] at hc; split at hc <;> simp_all
            · obtain ⟨ys', k', hD', _, hyl', hf'⟩ := hi 0 (by omega)
              obtain ⟨v', y', hc', _⟩ := hf' 0 f0 rfl
              simp [Addr.add, World.cell?] at hc'; split at hc' <;> simp_all
        obtain ⟨b, off, rfl⟩ := hx0
        obtain ⟨q, h1, h2⟩ := part_of (w := w) (b := b) (off := off + i * 3) ⟨f0, f1, f2, rfl, t0, t1, t2⟩ hD hyl (fun j f hj => by
          obtain ⟨v, y, hc, e, r⟩ := hf j f hj
          rw [Addr.add_lit] at hc
          exact ⟨v, y, by rw [Nat.add_assoc]; exact hc, e, r⟩)
        exact ⟨q, fun _ => ⟨⟨b, off, rfl, h1⟩, h2⟩⟩
      · exact ⟨⟨0, 0, none, 0, 0, []⟩, fun h => absurd h hin⟩
    obtain ⟨Q, hQ⟩ : ∃ Q : Nat → Pt, ∀ i, i < n → (∃ b off, x = ⟨b, off, none⟩ ∧ PtAt w b (off + i * 3) (Q i)) ∧ (Q i).bs.length ≤ Rows.uptoBulk (D i) := ⟨fun i => (hq i).choose, fun i hi => (hq i).choose_spec hi⟩
    refine ⟨some x, n, _, (List.range n).map Q, rfl, ⟨fun h => (by cases h), ?_⟩, by simp, hl, hm, fun h => (by cases h), ?_⟩
    · intro i q hqi
      have hin : i < n := by have := (List.getElem?_eq_some_iff.1 hqi).1; simpa using this
      simp [List.getElem?_range hin] at hqi
      subst hqi
      obtain ⟨b, off, e, h⟩ := (hQ i hin).1
      exact ⟨b, off, by rw [e], h⟩
    · simp only [Prod.mk.injEq] at hx
      rw [hx.1]
      simp only [Rows.uptoBulk]
      have := range_bulk D Q n 0 (fun i hi => by simpa using (hQ i hi).2)
      simp only [List.range_eq_range'] at this ⊢
      omega

theorem PtOk.keeps {w w' : World} {S : Nat → Prop} {q : Pt} (h : PtOk w q) (k : Keeps w w' S) (hn : ∀ x, q.a = some x → x.block < w.heap.size → ¬ S x.block) : PtOk w' q := by
  refine ⟨⟨h.reads.1, fun x hx i hi => ?_⟩, h.len, h.bytes, h.cap, h.max, h.none, h.kind, h.num⟩
  have hc := h.reads.2 x hx i hi
  have hlt := World.block_lt_of_cell? w _ hc
  rw [add_block] at hlt
  exact k.cell_some hc (by rw [add_block]; exact hn x hx hlt)
theorem PtAt.keeps {w w' : World} {S : Nat → Prop} {q : Pt} {b off : Nat} (h : PtAt w b off q) (k : Keeps w w' S) (hn : ∀ i, i < w.heap.size → ¬ S i) : PtAt w' b off q :=
  ⟨k.cell_some h.c0 (hn _ (World.block_lt_of_cell? w _ h.c0)), k.cell_some h.c1 (hn _ (World.block_lt_of_cell? w _ h.c1)), k.cell_some h.c2 (hn _ (World.block_lt_of_cell? w _ h.c2)), h.ok.keeps k fun x _ hl => hn _ hl⟩
theorem PtsAt.keeps {w w' : World} {S : Nat → Prop} {a : Option Addr} {l : List Pt} (h : PtsAt w a l) (k : Keeps w w' S) (hn : ∀ i, i < w.heap.size → ¬ S i) : PtsAt w' a l :=
  ⟨h.1, fun i q hq => by obtain ⟨b, off, e, h⟩ := h.2 i q hq; exact ⟨b, off, e, h.keeps k hn⟩⟩
theorem PtsAt.later {w w' : World} {a : Option Addr} {l : List Pt} (h : PtsAt w a l) (k : Below w.heap.size w w') : PtsAt w' a l := h.keeps (Keeps.of_below k (S := fun _ => False)) (fun _ _ h => h)
end Go.Proofs.Ytjpnbgimhmgooaa
