/- Bytes as a string; stores into rows that are owned; the walk of PackOwn. -/
import Derived.Test.YtjpnbgimhmgooaaB1
namespace Go.Proofs.Ytjpnbgimhmgooaa
open Go.RowKit
set_option linter.unusedVariables false

theorem str_ok {w : World} {a : Option Addr} {xs : List Int} {n c : Nat} (h : Reads w a xs) (hl : xs.length = n) : (convert 22 9 (.slice a n c)).run Try.prog w = .ok (.string (strOfNums xs)) w := by
  cases a with
  | none =>
    have := h.1 rfl
    subst this
    exact run_convert_bytes_nil w 22 5 Try.underlying22 Try.underlying5 n c 9 Try.underlying9
  | some x =>
    rw [run_convert_bytes_string w 22 9 5 _ n c Try.underlying22 Try.underlying5 Try.underlying9]
    have hl2 : (loadCells x n).run Try.prog w = .ok (xs.map (Value.int .u8)).toArray w := by
      have := run_loadCells_list (P := Try.prog) w x (xs.map (Value.int .u8)) (fun j v hj => by
        obtain ⟨hjl, rfl⟩ := ints_get hj
        exact h.2 x rfl j hjl)
      simpa [hl] using this
    rw [run_bytesToString w x n c xs hl2, foldl_push_bytes]
    simp [strOfNums, ByteArray.empty, ByteArray.emptyWithCapacity]
    rfl

theorem Own.reads {w : World} {a : Option Addr} {n c : Nat} {xs : List Int} (h : Own w (.slice a n c) xs) : Reads w a xs ∧ xs.length = n := by
  obtain ⟨a', c', hv, _, hr, _, _⟩ := h.form
  cases hv
  exact ⟨hr, rfl⟩

/-- Where something is owned: its head. -/
theorem Own.head {w : World} {a : Option Addr} {n c : Nat} {xs : List Int} (h : Own w (.slice a n c) xs) (hn : 0 < n) : ∃ g, a = some ⟨g, 0, none⟩ ∧ g < w.heap.size := by
  rcases h.2 with ⟨e, h0⟩ | ⟨g, cap, cur, e, _, hg, _⟩
  · cases e; omega
  · cases e; exact ⟨g, rfl, heap_lt hg⟩

theorem Own.cell {w : World} {g n c : Nat} {xs : List Int} (h : Own w (.slice (some ⟨g, 0, none⟩) n c) xs) {i : Nat} (hi : i < n) : w.cell? ⟨g, i, none⟩ = some (.int .u8 (xs.getD i 0)) := by
  obtain ⟨hr, hl⟩ := h.reads
  have := hr.2 _ rfl i (by omega)
  rw [Addr.add_lit, Nat.zero_add] at this
  exact this
theorem Own.free {w : World} {g n c : Nat} {xs : List Int} (h : Own w (.slice (some ⟨g, 0, none⟩) n c) xs) (i : Nat) : w.frozen? ⟨g, i, none⟩ = false := by
  rcases h.2 with ⟨e, h0⟩ | ⟨g, cap, cur, e, _, hg, _⟩
  · cases e
  · cases e; exact frozen_of hg i

theorem Own.store {w : World} {g n c : Nat} {xs : List Int} (h : Own w (.slice (some ⟨g, 0, none⟩) n c) xs) {i : Nat} (hi : i < n) (z : Int) : Own (w.setCell ⟨g, i, none⟩ (.int .u8 z)) (.slice (some ⟨g, 0, none⟩) n c) (xs.set i z) := by
  have hl := h.reads.2
  rcases h.2 with ⟨e, h0⟩ | ⟨g, cap, cur, e, hb, hg, hn, hcm, hcs, htake⟩
  · cases e
  · cases e
    refine ⟨by simp, .inr ⟨g, c, cur.setIfInBounds i (.int .u8 z), by simp, hb, ?_, by simpa using hn, hcm, by simpa using hcs, ?_⟩⟩
    · exact heap_setCell_at hg i _
    · simp only [Array.toList_setIfInBounds, List.length_set]
      rw [List.take_set, htake]
      simp [ints, List.map_set]

/-- The loop of PackOwn: two rows of the call's own, and nothing else. -/
def OwnRel (w : World) (n : Nat) (c t : Value) (i : Value) (wr : World) : Prop :=
  ∃ k : Nat, i = .int .i64 k ∧ k ≤ n ∧ ∃ xs ys, Own wr c xs ∧ Own wr t ys ∧ Keeps w wr (fun j => c.ownBlock = some j ∨ t.ownBlock = some j)

theorem own_round {w wr : World} {n c1 c2 k g1 g2 : Nat} {xs ys : List Int} {z1 z2 : Int} (hg : g1 ≠ g2) (h1 : Own wr (.slice (some ⟨g1, 0, none⟩) n c1) xs) (h2 : Own wr (.slice (some ⟨g2, 0, none⟩) n c2) ys)
    (hk : k < n) (K : Keeps w wr (fun j => (Value.slice (some ⟨g1, 0, none⟩) n c1).ownBlock = some j ∨ (Value.slice (some ⟨g2, 0, none⟩) n c2).ownBlock = some j)) :
    OwnRel w n (.slice (some ⟨g1, 0, none⟩) n c1) (.slice (some ⟨g2, 0, none⟩) n c2) (.int .i64 ((k : Int) + 1)) ((wr.setCell ⟨g1, k, none⟩ (.int .u8 z1)).setCell ⟨g2, k, none⟩ (.int .u8 z2)) := by
  refine ⟨k + 1, rfl, hk, xs.set k z1, ys.set k z2, ?_, ?_, ?_⟩
  · refine (h1.store hk z1).keeps (Keeps.setCell _ _ _ (S := fun j => j = g2) rfl) ?_
    intro j hj e
    simp [Value.ownBlock] at hj
    omega
  · refine Own.store ?_ hk z2
    refine h2.keeps (Keeps.setCell _ _ _ (S := fun j => j = g1) rfl) ?_
    intro j hj e
    simp [Value.ownBlock] at hj
    omega
  · refine (K.trans (Keeps.setCell _ _ _ (S := fun j => j = g1) rfl) ?_).trans (Keeps.setCell _ _ _ (S := fun j => j = g2) rfl) ?_
    · intro i _ e; left; simp [Value.ownBlock, e]
    · intro i _ e; right; simp [Value.ownBlock, e]

theorem raw_all {w w1 : World} {p n : Nat} {a : Option Addr} {bs : List Int} {e : Ending} (h : IRawPost w p a false bs n e w1) (L : bs.length = n) :
    ∃ a' n' c', e = .returned (.slice a' n' c') ∧ Own w1 (.slice a' n' c') bs ∧ (∀ k, (Value.slice a' n' c').ownBlock = some k → w.heap.size ≤ k) ∧ (∃ a n c, InAt w1 p a n c false [] ∧ ∀ x, a = some x → x.block < w1.heap.size ∨ True) ∧ Keeps w w1 (Only p) := by
  unfold IRawPost at h
  rw [if_neg (by rintro (h | h | h); cases h; omega; omega)] at h
  obtain ⟨a', n', c', rfl, o, f, a3, n3, c3, h3, k3, b3⟩ := h
  rw [Int.toNat_natCast, ← L, List.take_length] at o
  rw [Int.toNat_natCast, ← L, List.drop_length] at h3
  exact ⟨a', n', c', rfl, o, f, ⟨a3, n3, c3, h3, fun _ _ => .inr trivial⟩, k3⟩

theorem own_later {w3 w4 w5 w6 : World} {v : Value} {xs : List Int} (h : Own w3 v xs) (b4 : Below w3.heap.size w3 w4) (b5 : Below w4.heap.size w4 w5) (b6 : Below w5.heap.size w5 w6) : Own w6 v xs :=
  ((h.keeps (Keeps.of_below b4 (S := fun _ => False)) (fun _ _ h => h)).keeps (Keeps.of_below b5 (S := fun _ => False)) (fun _ _ h => h)).keeps (Keeps.of_below b6 (S := fun _ => False)) (fun _ _ h => h)

theorem below_chain {w w1 w2 w3 w4 w5 w6 : World} {p : Nat} (b1 : Below w.heap.size w w1) (b2 : Below w1.heap.size w1 w2) (k3 : Keeps w2 w3 (Only p)) (hp : w1.heap.size ≤ p) (b4 : Below w3.heap.size w3 w4) (b5 : Below w4.heap.size w4 w5) (b6 : Below w5.heap.size w5 w6) : Below w.heap.size w w6 := by
  have s1 := b1.size
  have s2 := b2.size
  have s3 := k3.size
  have s4 := b4.size
  have s5 := b5.size
  have k : Below w.heap.size w2 w3 := ⟨k3.os, k3.tape, k3.output, k3.size, fun j hj => k3.block j (by omega) (by unfold Only; omega)⟩
  exact ((((b1.trans (b2.mono s1)).trans k).trans (b4.mono (by omega))).trans (b5.mono (by omega))).trans (b6.mono (by omega))

theorem Reads.later {w w' : World} {a : Option Addr} {xs : List Int} (h : Reads w a xs) (b : Below w.heap.size w w') : Reads w' a xs := h.keeps (Keeps.of_below b (S := fun _ => False)) (fun _ _ h => h)

theorem in_later {w3 w4 w5 w6 wr : World} {p : Nat} {a : Option Addr} {n c : Nat} {S : Nat → Prop} (h : InAt w3 p a n c false []) (b4 : Below w3.heap.size w3 w4) (b5 : Below w4.heap.size w4 w5) (b6 : Below w5.heap.size w5 w6) (k : Keeps w6 wr S) (hp : ¬ S p) :
    InAt wr p a n c false [] := by
  have h6 := ((h.keeps (Keeps.of_below b4 (S := fun _ => False)) (fun h => h) (fun _ _ h => h)).keeps (Keeps.of_below b5 (S := fun _ => False)) (fun h => h) (fun _ _ h => h)).keeps (Keeps.of_below b6 (S := fun _ => False)) (fun h => h) (fun _ _ h => h)
  exact ⟨k.heap h6.cells hp, Reads.nil _ _, h6.len, h6.cap, h6.none, h6.apart⟩

set_option maxRecDepth 100000 in
set_option maxHeartbeats 4000000 in
theorem packOwn_small (a : Option Addr) (n c : Nat) (bs : List Int) (w : World) (hr : Reads w a bs) (hl : bs.length = n) (hn : n ≤ 500) :
    Calls Try.prog 3 #[.slice a n c] w fun e w' => e = .returned (.bool true) ∧ Below w.heap.size w w' := by
  have R := Lib.hid hr
  have L := Lib.hid hl
  have s0 := str_ok (c := c) hr hl
  clear hr hl
  go_enter Try.func3, Try.ntmps3
  go_wp2_with fail
  refine (awake_ok w).mono ?_
  rintro e w1 ⟨rfl, b1⟩
  have B1 := Lib.hid b1
  have R1 : Hid (Reads w1 a bs) := Lib.hid (R.out.keeps (Keeps.of_below b1) (fun _ _ h => h) (S := fun _ => False))
  have s1 := str_ok (c := c) R1.out L.out
  clear b1 s0
  go_wp2_with fail
  refine (read_ok a n c bs w1 R1.out L.out (by omega)).mono ?_
  rintro e w2 ⟨p, ai, ni, ci, rfl, hp, hai, hin, b2⟩
  have B2 := Lib.hid b2
  have I2 := Lib.hid hin
  have P2 := Lib.hid hp
  clear b2 hin hp hai s1
  go_wp2_with fail
  refine (iraw_ok I2.out (by rw [L.out]; omega) n).mono ?_
  intro e w3 he
  obtain ⟨at3, nt, ct, rfl, ot, ft, hi3, k3⟩ := raw_all he L.out
  obtain ⟨hrt, hlt⟩ := ot.reads
  obtain rfl : n = nt := by have := L.out; omega
  have I3 := Lib.hid hi3
  have K3 := Lib.hid k3
  have T3 := Lib.hid ot
  have F3 := Lib.hid ft
  clear he hi3 k3 ot ft hrt hlt
  have O3 := Lib.hid (outAt_new w3)
  have T3' : Hid (Own (w3.alloc (.cells #[.slice none 0 0, .bool false] 30)) (.slice at3 n ct) bs) := Lib.hid (T3.out.keeps (Keeps.alloc _ _ (fun _ => False)) (fun _ _ h => h))
  have N3 := Lib.hid T3'.out.form
  go_wp2_with fail
  refine (oraw_ok w3.heap.size _ false [] at3 n ct bs _ O3.out L.out (by obtain ⟨_, _, e, _, _, h, _⟩ := N3.out; cases e; exact h) T3'.out.reads.1 (by simp; omega)).mono ?_
  rintro e w4 ⟨rfl, hp4⟩
  obtain ⟨v4, o4, b4, f4⟩ := putPost_below rfl hp4
  have O4 := Lib.hid o4
  have B4 := Lib.hid b4
  clear hp4 o4 b4 f4
  go_wp2_with fail
  refine (oend_ok w3.heap.size v4 false _ w4 O4.out (by simp; rw [L.out]; omega)).mono ?_
  intro e w5 he
  obtain ⟨ac, nc, cc, rfl, oc, b5, f5⟩ := endPost_ok he (by simp; rw [L.out]; omega)
  have hlc := oc.reads.2
  obtain rfl : n = nc := by have := L.out; simp at hlc; omega
  have C5 := Lib.hid oc
  have B5 := Lib.hid b5
  have F5 := Lib.hid f5
  clear he oc b5 f5 hlc
  have O5 := Lib.hid (O4.out.keeps (Keeps.of_below B5.out (S := fun _ => False)) (fun _ _ h => h))
  go_wp2_with fail
  refine (oend_ok w3.heap.size v4 false _ w5 O5.out (by simp; rw [L.out]; omega)).mono ?_
  intro e w6 he
  obtain ⟨ad, nd, cd, rfl, od, b6, f6⟩ := endPost_ok he (by simp; rw [L.out]; omega)
  have hld := od.reads.2
  obtain rfl : n = nd := by have := L.out; simp at hld; omega
  have D6 := Lib.hid od
  have B6 := Lib.hid b6
  have F6 := Lib.hid f6
  clear he od b6 f6 hld
  go_wp2
  go_loopw [11] (fun i wr => OwnRel w6 n (.slice ac n cc) (.slice at3 n ct) i wr) (fun i _ => n - (intOf i).toNat)
  case atStart => exact ⟨0, rfl, Nat.zero_le _, _, _, C5.out.keeps (Keeps.of_below B6.out (S := fun _ => False)) (fun _ _ h => h), own_later T3.out B4.out B5.out B6.out, Keeps.refl _ _⟩
  case round =>
    obtain ⟨k, rfl, hk, xs, ys, hx, hy, hK⟩ := hrel
    have X := Lib.hid hx
    have Y := Lib.hid hy
    have K := Lib.hid hK
    clear hx hy hK
    by_cases hlt : k < n
    · obtain ⟨g1, rfl, hg1⟩ := C5.out.head (by omega)
      obtain ⟨g2, rfl, hg2⟩ := T3.out.head (by omega)
      have hne : g1 ≠ g2 := by
        have := F5.out g1 rfl
        have := B4.out.size
        omega
      have c1 := X.out.cell hlt
      have f1 := X.out.free k
      have c2 := Y.out.cell hlt
      have f2 := Y.out.free k
      have c2' : ∀ z, (wr.setCell ⟨g1, k, none⟩ z).cell? ⟨g2, k, none⟩ = some (.int .u8 (ys.getD k 0)) := fun z => by
        exact (World.cell?_of_block (a := ⟨g2, k, none⟩) (heap_setCell_other (fun e => hne e.symm))).trans c2
      have NE := Lib.hid hne
      clear hne hg1 hg2 c2
      go_wp2
      go_roundw
      case rel => exact own_round NE.out X.out Y.out hlt K.out
      case measure => simp [intOf]; omega
    · obtain rfl : k = n := by omega
      have hs : Hid (∀ j, j < w.heap.size → ¬ ((Value.slice ac k cc).ownBlock = some j ∨ (Value.slice at3 k ct).ownBlock = some j)) := Lib.hid (by
        rintro j hj (e | e)
        · have := F5.out j e; have := B4.out.size; have := B1.out.size; have := B2.out.size; have := K3.out.size; omega
        · have := F3.out j e; have := B1.out.size; have := B2.out.size; omega)
      have W6 : Hid (Below w.heap.size w w6) := Lib.hid (below_chain B1.out B2.out K3.out P2.out B4.out B5.out B6.out)
      have W7 : Hid (Below w.heap.size w wr) := Lib.hid (W6.out.trans ⟨K.out.os, K.out.tape, K.out.output, K.out.size, fun j hj => K.out.block j (Nat.lt_of_lt_of_le hj W6.out.size) (hs.out j hj)⟩)
      have sb := str_ok (c := c) (Reads.later R.out W7.out) L.out
      have D7 := D6.out.keeps K.out (by
        rintro j hj (e | e)
        · have := F6.out j hj; have := C5.out.lt e; omega
        · have := F6.out j hj; have := T3.out.lt e; have := B4.out.size; have := B5.out.size; omega)
      have sd := str_ok (c := cd) D7.reads.1 D7.reads.2
      rw [List.nil_append] at sd
      have hpp : Hid (∀ j, (Value.slice ac k cc).ownBlock = some j ∨ (Value.slice at3 k ct).ownBlock = some j → j ≠ p) := Lib.hid (by
        rintro j (e | e) rfl
        · have := F5.out j e; have := heap_lt I2.out.cells; have := B4.out.size; have := K3.out.size; omega
        · have := F3.out j e; have := heap_lt I2.out.cells; omega)
      obtain ⟨a7, n7, c7, i7, _⟩ : ∃ a n c, InAt w3 p a n c false [] ∧ ∀ x, a = some x → x.block < w3.heap.size ∨ True := I3.out
      have I7 := Lib.hid (in_later i7 B4.out B5.out B6.out K.out (fun e => hpp.out p e rfl))
      have n70 : n7 = 0 := by have := i7.len; simpa using this.symm
      subst n70
      clear i7 D7
      go_wp2_with (go_at_call 13; refine (iover_ok I7.out).mono ?_; rintro e w8 ⟨rfl, rfl⟩)
      go_ret
      exact ⟨rfl, W7.out⟩
end Go.Proofs.Ytjpnbgimhmgooaa
