/- The contract of take of the law's text. -/
import Derived.Test.YtjpnbgimhmgooaaD2
namespace Go.Proofs.Ytjpnbgimhmgooaa
open Go.RowKit
set_option linter.unusedVariables false

/-- What a part takes of what is left: the number, the bytes, whether something was wrong, what is left. -/
def Took (bad : Bool) (bs : List Int) (k : Int) (x : Nat) (y : Nat) (t : List Int) (bad' : Bool) (rest : List Int) : Prop :=
  if k % 4 = 0 then
    ∃ z j : Nat, Numb bs z j ∧ if bad = true ∨ j = 0 ∨ x < z then y = 0 ∧ t = [] ∧ bad' = true ∧ rest = bs else y = z ∧ t = [] ∧ bad' = bad ∧ rest = bs.drop j
  else if k % 4 = 1 then
    ∃ z j : Nat, Numb bs z j ∧ if bad = true ∨ j = 0 ∨ wrap64 x < 0 ∨ wrap64 x < z ∨ 4096 < z ∨ bs.length < j + z then y = 0 ∧ t = [] ∧ bad' = true ∧ rest = bs
      else y = 0 ∧ t = (bs.drop j).take z ∧ bad' = bad ∧ rest = bs.drop (j + z)
  else if k % 4 = 2 then
    if bad = true ∨ wrap64 x < 0 ∨ (bs.length : Int) < wrap64 x then y = 0 ∧ t = [] ∧ bad' = true ∧ rest = bs
    else y = 0 ∧ t = bs.take (wrap64 x).toNat ∧ bad' = bad ∧ rest = bs.drop (wrap64 x).toNat
  else
    if bad = true ∨ bs = [] ∨ 1 < bs.getD 0 0 then y = 0 ∧ t = [] ∧ bad' = true ∧ rest = bs
    else y = (if bs.getD 0 0 = 1 then 1 else 0) ∧ t = [] ∧ bad' = bad ∧ rest = bs.drop 1

def TakePost (w : World) (p : Nat) (a : Option Addr) (bad : Bool) (bs : List Int) (q : Pt) (e : Ending) (w' : World) : Prop :=
  ∃ y ta tn tc t bad' rest, e = .returned (.tuple #[.int .u64 ((y : Nat) : Int), .slice ta tn tc]) ∧ Own w' (.slice ta tn tc) t ∧ (∀ k, (Value.slice ta tn tc).ownBlock = some k → w.heap.size ≤ k) ∧ InPost w p a bad' rest w' ∧ Took bad bs q.kind q.x y t bad' rest

theorem in_since {w w1 : World} {p : Nat} {a : Option Addr} {bad : Bool} {bs : List Int} {b : Obj} (hp : p < w.heap.size) (h : InPost (w.alloc b) p a bad bs w1) : InPost w p a bad bs w1 := by
  obtain ⟨a', n', c', h1, k1, e1⟩ := h
  exact ⟨a', n', c', h1, (Keeps.alloc w b (Only p)).trans k1 (fun _ _ h => h), e1⟩

theorem wrap64_le (x : Int) : wrap64 x ≤ 9223372036854775807 := by unfold wrap64; omega

set_option maxRecDepth 100000 in
set_option maxHeartbeats 4000000 in
theorem take_part {w : World} {p : Nat} {a : Option Addr} {n c : Nat} {bad : Bool} {bs : List Int} (q : Pt) (h : InAt w p a n c bad bs) (hb : Bytes bs) (hbig : bs.length ≤ 140737488355328) (hq : q.x < 18446744073709551616) (hk : Byte q.kind) :
    Calls Try.prog 21 #[.pointer (some ⟨p, 0, none⟩), q.agg] w (TakePost w p a bad bs q) := by
  have KA := Keeps.alloc w (.cells #[.int .u8 q.kind, .int .u64 q.x, .slice q.a q.n q.c] 42) (fun _ => False)
  have HP := heap_lt h.cells
  have H1 : Hid (InAt (w.alloc (.cells #[.int .u8 q.kind, .int .u64 q.x, .slice q.a q.n q.c] 42)) p a n c bad bs) := Lib.hid (h.keeps KA (fun h => h) (fun _ _ h => h))
  have B := Lib.hid hb
  have G := Lib.hid hbig
  have X := Lib.hid hq
  clear h hb hbig hq KA
  obtain ⟨k, x, qa, qn, qc, qbs⟩ := q
  simp only [Pt.agg] at *
  obtain ⟨k0, k1⟩ := hk
  rcases kind_cases k with hk | hk | hk | hk
  · go_enter Try.func21, Try.ntmps21
    go_wp2_with fail
    refine (inum_ok H1.out B.out G.out x X.out).mono ?_
    rintro e w1 ⟨z, j, hnb, he⟩
    by_cases hc : bad = true ∨ j = 0 ∨ x < z
    · rw [if_pos hc] at he
      obtain ⟨rfl, hi⟩ := he
      have I := Lib.hid (in_since HP hi)
      have C := Lib.hid hc
      have NB := Lib.hid hnb
      clear hi hc hnb
      go_wp2
      go_ret2
      refine ⟨0, none, 0, 0, [], true, bs, rfl, Own.nil _, (fun k hk => by cases hk), I.out, ?_⟩
      show Took bad bs k x _ _ _ _
      unfold Took
      rw [if_pos hk]
      exact ⟨z, j, NB.out, by rw [if_pos C.out]; exact ⟨rfl, rfl, rfl, rfl⟩⟩
    · rw [if_neg hc] at he
      obtain ⟨rfl, hi⟩ := he
      have I := Lib.hid (in_since HP hi)
      have C := Lib.hid hc
      have NB := Lib.hid hnb
      clear hi hc hnb
      go_wp2
      go_ret2
      refine ⟨z, none, 0, 0, [], bad, bs.drop j, rfl, Own.nil _, (fun k hk => by cases hk), I.out, ?_⟩
      show Took bad bs k x _ _ _ _
      unfold Took
      rw [if_pos hk]
      exact ⟨z, j, NB.out, by rw [if_neg C.out]; exact ⟨rfl, rfl, rfl, rfl⟩⟩
  · go_enter Try.func21, Try.ntmps21
    go_wp2_with fail
    refine (itext_ok H1.out B.out G.out (wrap64 x) (wrap64_le _)).mono ?_
    rintro e w1 ⟨z, j, hnb, he⟩
    by_cases hc : bad = true ∨ j = 0 ∨ wrap64 x < 0 ∨ wrap64 x < z ∨ 4096 < z ∨ bs.length < j + z
    · rw [if_pos hc] at he
      obtain ⟨rfl, hi⟩ := he
      have I := Lib.hid (in_since HP hi)
      have C := Lib.hid hc
      have NB := Lib.hid hnb
      clear hi hc hnb
      go_wp2
      go_ret2
      refine ⟨0, none, 0, 0, [], true, bs, rfl, Own.nil _, (fun k hk => by cases hk), I.out, ?_⟩
      show Took bad bs k x _ _ _ _
      unfold Took
      rw [if_neg (by omega), if_pos hk]
      exact ⟨z, j, NB.out, by rw [if_pos C.out]; exact ⟨rfl, rfl, rfl, rfl⟩⟩
    · rw [if_neg hc] at he
      obtain ⟨a1, n1, c1, rfl, ho, hf, hi⟩ := he
      have I := Lib.hid (in_since HP hi)
      have C := Lib.hid hc
      have NB := Lib.hid hnb
      have O := Lib.hid ho
      have F := Lib.hid hf
      clear hi hc hnb ho hf
      go_wp2
      go_ret2
      refine ⟨0, a1, n1, c1, _, bad, _, rfl, O.out, (fun k hk => by have := F.out k hk; simp at this; omega), I.out, ?_⟩
      show Took bad bs k x _ _ _ _
      unfold Took
      rw [if_neg (by omega), if_pos hk]
      exact ⟨z, j, NB.out, by rw [if_neg C.out]; exact ⟨rfl, rfl, rfl, rfl⟩⟩
  · go_enter Try.func21, Try.ntmps21
    go_wp2_with fail
    refine (iraw_ok H1.out G.out (wrap64 x)).mono ?_
    intro e w1 he
    unfold IRawPost at he
    by_cases hc : bad = true ∨ wrap64 x < 0 ∨ (bs.length : Int) < wrap64 x
    · rw [if_pos hc] at he
      obtain ⟨rfl, hi⟩ := he
      have I := Lib.hid (in_since HP hi)
      have C := Lib.hid hc
      clear hi hc
      go_wp2
      go_ret2
      refine ⟨0, none, 0, 0, [], true, bs, rfl, Own.nil _, (fun k hk => by cases hk), I.out, ?_⟩
      show Took bad bs k x _ _ _ _
      unfold Took
      rw [if_neg (by omega), if_neg (by omega), if_pos hk]
      rw [if_pos C.out]; exact ⟨rfl, rfl, rfl, rfl⟩
    · rw [if_neg hc] at he
      obtain ⟨a1, n1, c1, rfl, ho, hf, hi⟩ := he
      have I := Lib.hid (in_since HP hi)
      have C := Lib.hid hc
      have O := Lib.hid ho
      have F := Lib.hid hf
      clear hi hc ho hf
      go_wp2
      go_ret2
      refine ⟨0, a1, n1, c1, _, bad, _, rfl, O.out, (fun k hk => by have := F.out k hk; simp at this; omega), I.out, ?_⟩
      show Took bad bs k x _ _ _ _
      unfold Took
      rw [if_neg (by omega), if_neg (by omega), if_pos hk]
      rw [if_neg C.out]; exact ⟨rfl, rfl, rfl, rfl⟩
  · go_enter Try.func21, Try.ntmps21
    go_wp2_with fail
    refine (iflag_ok H1.out B.out).mono ?_
    intro e w1 he
    unfold IFlagPost at he
    by_cases hc : bad = true ∨ bs = [] ∨ 1 < bs.getD 0 0
    · rw [if_pos hc] at he
      obtain ⟨rfl, hi⟩ := he
      have I := Lib.hid (in_since HP hi)
      have C := Lib.hid hc
      clear hi hc
      go_wp2
      go_ret2
      refine ⟨0, none, 0, 0, [], true, bs, rfl, Own.nil _, (fun k hk => by cases hk), I.out, ?_⟩
      show Took bad bs k x _ _ _ _
      unfold Took
      rw [if_neg (by omega), if_neg (by omega), if_neg (by omega)]
      rw [if_pos C.out]; exact ⟨rfl, rfl, rfl, rfl⟩
    · rw [if_neg hc] at he
      obtain ⟨rfl, hi⟩ := he
      have I := Lib.hid (in_since HP hi)
      have C := Lib.hid hc
      clear hi hc
      by_cases h1 : bs.getD 0 0 = 1
      · have hb1 : (bs.getD 0 0 == 1) = true := by rw [h1]; rfl
        have E1 := Lib.hid h1
        rw [hb1]
        clear h1 hb1
        go_wp2
        go_ret2
        refine ⟨1, none, 0, 0, [], bad, _, rfl, Own.nil _, (fun k hk => by cases hk), I.out, ?_⟩
        show Took bad bs k x _ _ _ _
        unfold Took
        rw [if_neg (by omega), if_neg (by omega), if_neg (by omega)]
        rw [if_neg C.out, if_pos E1.out]; exact ⟨rfl, rfl, rfl, rfl⟩
      · have hb1 : (bs.getD 0 0 == 1) = false := by simpa using h1
        have E1 := Lib.hid h1
        rw [hb1]
        clear h1 hb1
        go_wp2
        go_ret2
        refine ⟨0, none, 0, 0, [], bad, _, rfl, Own.nil _, (fun k hk => by cases hk), I.out, ?_⟩
        show Took bad bs k x _ _ _ _
        unfold Took
        rw [if_neg (by omega), if_neg (by omega), if_neg (by omega)]
        rw [if_neg C.out, if_neg E1.out]; exact ⟨rfl, rfl, rfl, rfl⟩
end Go.Proofs.Ytjpnbgimhmgooaa
