/- The contracts of Num, Raw, Text and Flag of the reading half (In). -/
import Derived.Test.YtjpnbgimhmgooaaA7
import Derived.WalkLawsBesides
namespace Go.Proofs.Ytjpnbgimhmgooaa
open Go.RowKit
set_option linter.unusedVariables false

/-- What an In has become: only its own block is written, and what is left lies where it lay. -/
def InPost (w : World) (p : Nat) (a : Option Addr) (bad : Bool) (bs : List Int) (w' : World) : Prop :=
  ∃ a' n' c', InAt w' p a' n' c' bad bs ∧ Keeps w w' (Only p) ∧ ∀ x, a' = some x → ∃ y, a = some y ∧ x.block = y.block

theorem in_same {w w' : World} {p : Nat} {a : Option Addr} {n c : Nat} {bad : Bool} {bs : List Int} (h : InAt w' p a n c bad bs) (k : Keeps w w' (Only p)) : InPost w p a bad bs w' :=
  ⟨a, n, c, h, k, fun x hx => ⟨x, hx, rfl⟩⟩

theorem numb_le {bs : List Int} {x k : Nat} (h : Numb bs x k) : k ≤ bs.length := by
  rcases h with ⟨rfl, _⟩ | ⟨rfl, h, _⟩
  · omega
  · exact h.length_le
theorem numb_ten {bs : List Int} {x k : Nat} (h : Numb bs x k) : k ≤ 10 := by
  rcases h with ⟨rfl, _⟩ | ⟨rfl, _, h⟩
  · omega
  · exact num_length_u64 h
theorem numb_lt {bs : List Int} {x k : Nat} (h : Numb bs x k) : x < 18446744073709551616 := by
  rcases h with ⟨_, rfl, _⟩ | ⟨_, _, h⟩
  · omega
  · exact h

theorem in_cut {w : World} {p : Nat} {a a' : Option Addr} {n c n' c' k : Nat} {bad : Bool} {bs : List Int} (h : InAt w p a n c bad bs) (hc : CutOf w a c k a' c') (hk : k ≤ n) (hn : n' = n - k) :
    InPost w p a bad (bs.drop k) (w.setCell ⟨p, 0, none⟩ (.slice a' n' c')) :=
  ⟨a', n', c', in_rest h hc hk hn, Keeps.setCell _ _ _ rfl, hc.2.1⟩

def INumPost (w : World) (p : Nat) (a : Option Addr) (bad : Bool) (bs : List Int) (most : Nat) (e : Ending) (w' : World) : Prop :=
  ∃ x k : Nat, Numb bs x k ∧
    if bad = true ∨ k = 0 ∨ most < x then e = .returned (.int .u64 0) ∧ InPost w p a true bs w'
    else e = .returned (.int .u64 x) ∧ InPost w p a bad (bs.drop k) w'

set_option maxRecDepth 100000 in
set_option maxHeartbeats 2000000 in
theorem inum_ok {w : World} {p : Nat} {a : Option Addr} {n c : Nat} {bad : Bool} {bs : List Int} (h : InAt w p a n c bad bs) (hb : Bytes bs) (hbig : bs.length ≤ 140737488355328) (most : Nat) (hmost : most < 18446744073709551616) :
    Calls Try.prog 17 #[.pointer (some ⟨p, 0, none⟩), .int .u64 most] w (INumPost w p a bad bs most) := by
  have H := Lib.hid h
  have B := Lib.hid hb
  have c0 : w.cell? ⟨p, 0, none⟩ = some (.slice a n c) := by rw [cell_of h.cells]; rfl
  have c1 : w.cell? ⟨p, 1, none⟩ = some (.bool bad) := by rw [cell_of h.cells]; rfl
  have f0 : w.frozen? ⟨p, 0, none⟩ = false := frozen_of h.cells 0
  have hn : bs.length = n := h.len
  have N := Lib.hid hn
  have M := Lib.hid hmost
  have G := Lib.hid hbig
  clear h hb hn hmost hbig
  cases bad
  · go_enter Try.func17, Try.ntmps17
    go_wp2_with fail
    refine (inumber_ok H.out B.out G.out).mono ?_
    rintro e w1 ⟨x, k, rfl, hnb, rfl⟩
    have X := Lib.hid hnb
    have K := numb_le hnb
    rw [N.out] at K
    clear hnb
    by_cases hk : k = 0
    · subst hk
      go_wp2_with (go_at_call 24; refine (ifail_ok H.out).mono ?_; rintro e w1 ⟨rfl, ha, hk⟩)
      have A := Lib.hid ha
      have KK := Lib.hid hk
      clear ha hk
      go_wp2
      go_ret
      refine ⟨x, 0, X.out, ?_⟩
      rw [if_pos (.inr (.inl rfl))]
      exact ⟨rfl, in_same A.out KK.out⟩
    · by_cases hm : most < x
      · go_wp2_with (go_at_call 24; refine (ifail_ok H.out).mono ?_; rintro e w1 ⟨rfl, ha, hk⟩)
        have A := Lib.hid ha
        have KK := Lib.hid hk
        clear ha hk
        go_wp2
        go_ret
        refine ⟨x, k, X.out, ?_⟩
        rw [if_pos (.inr (.inr hm))]
        exact ⟨rfl, in_same A.out KK.out⟩
      · go_wp2_with (refine from_law rfl _ _ rfl a n c k rfl .i64 k rfl rfl K ?_)
        intro ao' n' c' hn' hc
        have C := Lib.hid hc
        have N' := Lib.hid hn'
        clear hc hn'
        go_wp2
        go_ret
        refine ⟨x, k, X.out, ?_⟩
        rw [if_neg (by rintro (h | h | h); cases h; exact hk h; exact hm h)]
        exact ⟨rfl, in_cut H.out C.out K N'.out⟩
  · go_enter Try.func17, Try.ntmps17
    go_wp2_with fail
    refine (inumber_ok H.out B.out G.out).mono ?_
    rintro e w1 ⟨x, k, rfl, hnb, rfl⟩
    have X := Lib.hid hnb
    clear hnb
    go_wp2_with (go_at_call 24; refine (ifail_ok H.out).mono ?_; rintro e w1 ⟨rfl, ha, hk⟩)
    have A := Lib.hid ha
    have KK := Lib.hid hk
    clear ha hk
    go_wp2
    go_ret
    refine ⟨x, k, X.out, ?_⟩
    rw [if_pos (.inl rfl)]
    exact ⟨rfl, in_same A.out KK.out⟩

def IRawPost (w : World) (p : Nat) (a : Option Addr) (bad : Bool) (bs : List Int) (m : Int) (e : Ending) (w' : World) : Prop :=
  if bad = true ∨ m < 0 ∨ (bs.length : Int) < m then e = .returned (.slice none 0 0) ∧ InPost w p a true bs w'
  else ∃ a' n' c', e = .returned (.slice a' n' c') ∧ Own w' (.slice a' n' c') (bs.take m.toNat) ∧ (∀ k, (Value.slice a' n' c').ownBlock = some k → w.heap.size ≤ k) ∧ InPost w p a bad (bs.drop m.toNat) w'

theorem raw_end {w w1 : World} {p : Nat} {a ao' a1 : Option Addr} {n c n' c' n1 c1 m : Nat} {bs : List Int} (H : InAt w p a n c false bs) (hm : m ≤ n) (O : Own w1 (.slice a1 n1 c1) (bs.take m)) (B : Below w.heap.size w w1)
    (F : ∀ k, (Value.slice a1 n1 c1).ownBlock = some k → w.heap.size ≤ k) (C : CutOf w1 a c m ao' c') (N : n' = n - m) :
    IRawPost w p a false bs m (.returned (.slice a1 n1 c1)) (w1.setCell ⟨p, 0, none⟩ (.slice ao' n' c')) := by
  have hl := H.len
  have hp := heap_lt H.cells
  unfold IRawPost
  rw [if_neg (by rintro (h | h | h); cases h; omega; omega)]
  have H1 : InAt w1 p a n c false bs := H.keeps (Keeps.of_below (S := fun _ => False) B) (fun h => h) (fun _ _ h => h)
  obtain ⟨a2, n2, c2, h2, k2, e2⟩ := in_cut H1 C hm N
  refine ⟨a1, n1, c1, rfl, ?_, F, a2, n2, c2, ?_, (Keeps.of_below B).trans k2 (fun _ _ h => h), e2⟩
  · rw [Int.toNat_natCast]
    exact O.keeps k2 (fun k hk e => by have := F k hk; unfold Only at e; omega)
  · rw [Int.toNat_natCast]; exact h2

theorem CutOf.world {w w' : World} {a a' : Option Addr} {c k c' : Nat} {bs : List Int} (h : CutOf w a c k a' c') (hc0 : a = none → c = 0) (hc : bs.length ≤ c) (hr : Reads w a bs) : Reads w a' (bs.drop k) := h.2.2.1 bs hc0 hc hr

theorem reads_take {w : World} {a : Option Addr} {bs : List Int} (h : Reads w a bs) (k : Nat) : Reads w a (bs.take k) := by
  refine ⟨fun e => by rw [h.1 e]; simp, fun x hx i hi => ?_⟩
  have hi' : i < bs.length := by simp at hi; omega
  have hk' : i < k := by simp at hi; omega
  rw [h.2 x hx i hi']
  simp [List.getD, hk']

set_option maxRecDepth 100000 in
set_option maxHeartbeats 2000000 in
theorem iraw_ok {w : World} {p : Nat} {a : Option Addr} {n c : Nat} {bad : Bool} {bs : List Int} (h : InAt w p a n c bad bs) (hbig : bs.length ≤ 140737488355328) (m : Int) :
    Calls Try.prog 10 #[.pointer (some ⟨p, 0, none⟩), .int .i64 m] w (IRawPost w p a bad bs m) := by
  have H := Lib.hid h
  have c0 : w.cell? ⟨p, 0, none⟩ = some (.slice a n c) := by rw [cell_of h.cells]; rfl
  have c1 : w.cell? ⟨p, 1, none⟩ = some (.bool bad) := by rw [cell_of h.cells]; rfl
  have f0 : w.frozen? ⟨p, 0, none⟩ = false := frozen_of h.cells 0
  have hn : bs.length = n := h.len
  have hnc := h.cap
  have N := Lib.hid hn
  rw [hn] at hbig
  clear h hn
  cases bad
  · by_cases h0 : m < 0
    · go_enter Try.func10, Try.ntmps10
      go_wp2_with (go_at_call 24; refine (ifail_ok H.out).mono ?_; rintro e w1 ⟨rfl, ha, hk⟩)
      have A := Lib.hid ha
      have KK := Lib.hid hk
      clear ha hk
      go_wp2
      go_ret
      unfold IRawPost
      rw [if_pos (.inr (.inl h0))]
      exact ⟨rfl, in_same A.out KK.out⟩
    · by_cases h1 : (n : Int) < m
      · go_enter Try.func10, Try.ntmps10
        go_wp2_with (go_at_call 24; refine (ifail_ok H.out).mono ?_; rintro e w1 ⟨rfl, ha, hk⟩)
        have A := Lib.hid ha
        have KK := Lib.hid hk
        clear ha hk
        go_wp2
        go_ret
        unfold IRawPost
        rw [if_pos (.inr (.inr (by rw [N.out]; exact h1)))]
        exact ⟨rfl, in_same A.out KK.out⟩
      · obtain ⟨k, rfl⟩ : ∃ k : Nat, m = k := ⟨m.toNat, by omega⟩
        have hk : k ≤ n := by omega
        clear h0 h1
        go_enter Try.func10, Try.ntmps10
        go_wp2_with (refine upto_law rfl _ _ rfl a n c k rfl .i64 k rfl rfl (by omega) ?_)
        intro ao' c' hc
        have C := Lib.hid hc
        clear hc
        have R : Hid (Reads w ao' (bs.take k)) := Lib.hid (reads_take (C.out.2.2.1 bs H.out.none (by rw [H.out.len]; exact H.out.cap) H.out.reads) k)
        go_wp2_with fail
        refine (clone_ok ao' k c' (bs.take k) w R.out (by rw [List.length_take, N.out]; omega) (by omega)).mono ?_
        rintro e w1 ⟨a1, n1, c1', rfl, ho, hbl, hf⟩
        have O1 := Lib.hid ho
        have B1 := Lib.hid hbl
        have F1 := Lib.hid hf
        have c01 : w1.cell? ⟨p, 0, none⟩ = some (.slice a n c) := by rw [hbl.cell (World.block_lt_of_cell? w _ c0)]; exact c0
        have f01 : w1.frozen? ⟨p, 0, none⟩ = false := by rw [hbl.frozen (World.block_lt_of_cell? w _ c0)]; exact f0
        clear ho hbl hf
        go_wp2_with (refine from_law rfl _ _ rfl a n c k rfl .i64 k rfl rfl hk ?_)
        intro ao2 n2 c2 hn2 hc2
        have C2 := Lib.hid hc2
        have N2 := Lib.hid hn2
        clear hc2 hn2
        go_wp2
        go_ret
        exact raw_end H.out hk O1.out B1.out F1.out C2.out N2.out
  · go_enter Try.func10, Try.ntmps10
    go_wp2_with (go_at_call 24; refine (ifail_ok H.out).mono ?_; rintro e w1 ⟨rfl, ha, hk⟩)
    have A := Lib.hid ha
    have KK := Lib.hid hk
    clear ha hk
    go_wp2
    go_ret
    unfold IRawPost
    rw [if_pos (.inl rfl)]
    exact ⟨rfl, in_same A.out KK.out⟩
end Go.Proofs.Ytjpnbgimhmgooaa
