/- The reference's Got. -/
import Derived.Test.YtjpnbgimhmgooaaD5
namespace Go.Proofs.Ytjpnbgimhmgooaa
open Go.RowKit
set_option linter.unusedVariables false

def Gotten (bs : List Int) (k : Int) (x : Nat) (y : Nat) (t : List Int) (m : Int) : Prop :=
  if k % 4 = 0 then
    ∃ z j : Nat, Numb bs z j ∧ if j = 0 ∨ x < z then y = 0 ∧ t = [] ∧ m = -1 else y = z ∧ t = [] ∧ m = j
  else if k % 4 = 1 then
    ∃ z j : Nat, Numb bs z j ∧ if j = 0 ∨ wrap64 x < 0 ∨ x < z ∨ 4096 < z ∨ bs.length < j + z then y = 0 ∧ t = [] ∧ m = -1 else y = 0 ∧ t = (bs.drop j).take z ∧ m = ((j + z : Nat) : Int)
  else if k % 4 = 2 then
    if wrap64 x < 0 ∨ (bs.length : Int) < wrap64 x then y = 0 ∧ t = [] ∧ m = -1 else y = 0 ∧ t = bs.take (wrap64 x).toNat ∧ m = wrap64 x
  else
    if bs = [] ∨ 1 < bs.getD 0 0 then y = 0 ∧ t = [] ∧ m = -1 else (y : Int) = bs.getD 0 0 ∧ t = [] ∧ m = 1

def GotPost (w : World) (bs : List Int) (q : Pt) (e : Ending) (w' : World) : Prop :=
  ∃ (y : Nat) (t : List Int) (m : Int) (ta : Option Addr) (tn tc : Nat), e = .returned (.tuple #[.int .u64 ((y : Nat) : Int), .slice ta tn tc, .int .i64 m]) ∧ Reads w' ta t ∧ t.length = tn ∧ Below w.heap.size w w' ∧ Gotten bs q.kind q.x y t m

theorem got_fail {w w' : World} {bs : List Int} {q : Pt} (b : Below w.heap.size w w') (h : Gotten bs q.kind q.x 0 [] (-1)) : GotPost w bs q (.returned (.tuple #[.int .u64 0, .slice none 0 0, .int .i64 (-1)])) w' :=
  ⟨0, [], -1, none, 0, 0, rfl, Reads.nil _ _, rfl, b, h⟩

/-- x[lo:lo+m] at []byte. -/
theorem slice_run {w : World} (ao : Option Addr) (n c lo m : Nat) (h2 : lo + m ≤ c) : ∃ ao' c', CutOf w ao c lo ao' c' ∧ ∀ w', (Instr.slice 22 (.slice ao n c) (some (.int .i64 (lo : Int))) (some (.int .i64 ((lo : Int) + (m : Int)))) none).run Try.prog w' = .ok (.slice ao' m c') w' := by
  refine ⟨_, _, cutOf_sliced (w := w) ao c lo, fun w' => ?_⟩
  rw [run_slice_lh (P := Try.prog) w' 22 ao n c elem22 .i64 .i64 (lo : Int) ((lo : Int) + (m : Int)) (by omega) (by omega) (by omega), elem22', sizeOf5]
  have e : ((lo : Int) + (m : Int)).toNat = lo + m := by omega
  simp [Result.andThen, sliced, e]

set_option maxRecDepth 100000 in
set_option maxHeartbeats 4000000 in
theorem got_ok0 {w : World} {a : Option Addr} {n c : Nat} {bs : List Int} (q : Pt) (hr : Reads w a bs) (hl : bs.length = n) (hb : Bytes bs) (hc : n ≤ c) (hnone : a = none → c = 0) (hbig : n ≤ 2000) (hq : q.x < 18446744073709551616) (hk : Byte q.kind) (hkk : q.kind % 4 = 0) :
    Calls Try.prog 22 #[.slice a n c, q.agg] w (GotPost w bs q) := by
  have KA := Keeps.alloc w (.cells #[.int .u8 q.kind, .int .u64 q.x, .slice q.a q.n q.c] 42) (fun _ => False)
  have BA : Hid (Below w.heap.size w (w.alloc (.cells #[.int .u8 q.kind, .int .u64 q.x, .slice q.a q.n q.c] 42))) := Lib.hid (KA.below (fun _ _ h => h))
  have R := Lib.hid hr
  have R1 : Hid (Reads (w.alloc (.cells #[.int .u8 q.kind, .int .u64 q.x, .slice q.a q.n q.c] 42)) a bs) := Lib.hid (Reads.later hr BA.out)
  have L := Lib.hid hl
  have B := Lib.hid hb
  have NN := Lib.hid hnone
  have X := Lib.hid hq
  clear hr hl hb hnone hq KA
  obtain ⟨k, x, qa, qn, qc, qbs⟩ := q
  simp only [Pt.agg] at *
  have hk' := hkk
  clear hkk
  obtain ⟨k0, k1⟩ := hk
  have hk := hk'
  clear hk'
  go_enter Try.func22, Try.ntmps22
  go_wp2_with fail
  refine (rtake_ok R1.out L.out B.out hc NN.out (by omega)).mono ?_
  rintro e w1 ⟨z, j, rfl, hnb, hbl⟩
  have NB := Lib.hid hnb
  have B1 := Lib.hid (BA.out.trans (hbl.mono BA.out.size))
  have cx : w1.cell? ⟨w.heap.size, 1, none⟩ = some (.int .u64 x) := by rw [hbl.cell (by simp)]; rw [World.cell?_alloc_new]; rfl
  clear hnb hbl
  by_cases hj : j = 0
  · subst hj
    go_wp2
    go_ret3
    refine got_fail B1.out ?_
    show Gotten bs k x _ _ _
    unfold Gotten
    rw [if_pos hk]
    exact ⟨z, 0, NB.out, by rw [if_pos (.inl rfl)]; exact ⟨rfl, rfl, rfl⟩⟩
  · have hjb : ((j : Int) == 0) = false := by simp; omega
    by_cases hx : x < z
    · go_wp2
      go_ret3
      refine got_fail B1.out ?_
      show Gotten bs k x _ _ _
      unfold Gotten
      rw [if_pos hk]
      exact ⟨z, j, NB.out, by rw [if_pos (.inr hx)]; exact ⟨rfl, rfl, rfl⟩⟩
    · go_wp2
      go_ret3
      refine ⟨z, [], j, none, 0, 0, rfl, Reads.nil _ _, rfl, B1.out, ?_⟩
      show Gotten bs k x _ _ _
      unfold Gotten
      rw [if_pos hk]
      exact ⟨z, j, NB.out, by rw [if_neg (by rintro (h | h); exact hj h; exact hx h)]; exact ⟨rfl, rfl, rfl⟩⟩

set_option maxRecDepth 100000 in
set_option maxHeartbeats 4000000 in
theorem got_ok1 {w : World} {a : Option Addr} {n c : Nat} {bs : List Int} (q : Pt) (hr : Reads w a bs) (hl : bs.length = n) (hb : Bytes bs) (hc : n ≤ c) (hnone : a = none → c = 0) (hbig : n ≤ 2000) (hq : q.x < 18446744073709551616) (hk : Byte q.kind) (hkk : q.kind % 4 = 1) :
    Calls Try.prog 22 #[.slice a n c, q.agg] w (GotPost w bs q) := by
  have KA := Keeps.alloc w (.cells #[.int .u8 q.kind, .int .u64 q.x, .slice q.a q.n q.c] 42) (fun _ => False)
  have BA : Hid (Below w.heap.size w (w.alloc (.cells #[.int .u8 q.kind, .int .u64 q.x, .slice q.a q.n q.c] 42))) := Lib.hid (KA.below (fun _ _ h => h))
  have R := Lib.hid hr
  have R1 : Hid (Reads (w.alloc (.cells #[.int .u8 q.kind, .int .u64 q.x, .slice q.a q.n q.c] 42)) a bs) := Lib.hid (Reads.later hr BA.out)
  have L := Lib.hid hl
  have B := Lib.hid hb
  have NN := Lib.hid hnone
  have X := Lib.hid hq
  clear hr hl hb hnone hq KA
  obtain ⟨k, x, qa, qn, qc, qbs⟩ := q
  simp only [Pt.agg] at *
  have hk' := hkk
  clear hkk
  obtain ⟨k0, k1⟩ := hk
  have hk := hk'
  clear hk'
  obtain ⟨W, hW⟩ : ∃ W, wrap64 x = W := ⟨_, rfl⟩
  have WH := Lib.hid hW
  go_enter Try.func22, Try.ntmps22
  go_wp2_with fail
  refine (rtake_ok R1.out L.out B.out hc NN.out (by omega)).mono ?_
  rintro e w1 ⟨z, j, rfl, hnb, hbl⟩
  have NB := Lib.hid hnb
  have hjn : j ≤ n := by rw [← L.out]; exact numb_le hnb
  have B1 := Lib.hid (BA.out.trans (hbl.mono BA.out.size))
  have cx : w1.cell? ⟨w.heap.size, 1, none⟩ = some (.int .u64 x) := by rw [hbl.cell (by simp)]; rw [World.cell?_alloc_new]; rfl
  clear hnb hbl
  have fail1 : Hid ((j = 0 ∨ W < 0 ∨ x < z ∨ 4096 < z ∨ n < j + z) → GotPost w bs ⟨k, x, qa, qn, qc, qbs⟩ (.returned (.tuple #[.int .u64 0, .slice none 0 0, .int .i64 (-1)])) w1) := Lib.hid (fun h => by
    refine got_fail B1.out ?_
    show Gotten bs k x _ _ _
    unfold Gotten
    rw [if_neg (by omega), if_pos hk]
    exact ⟨z, j, NB.out, by rw [if_pos (by rw [L.out, WH.out]; exact h)]; exact ⟨rfl, rfl, rfl⟩⟩)
  by_cases hj : j = 0
  · subst hj
    go_wp2
    go_ret3
    exact fail1.out (by simp)
  · have hjb : ((j : Int) == 0) = false := by simp; omega
    by_cases hw : W < 0
    · go_wp2
      go_ret3
      exact fail1.out (.inr (.inl hw))
    · by_cases hx : x < z
      · go_wp2
        go_ret3
        exact fail1.out (.inr (.inr (.inl hx)))
      · by_cases h4 : 4096 < z
        · go_wp2
          go_ret3
          exact fail1.out (.inr (.inr (.inr (.inl h4))))
        · by_cases hz : n - j < z
          · go_wp2
            go_ret3
            exact fail1.out (.inr (.inr (.inr (.inr (by omega)))))
          · obtain ⟨ao, co, hcut, hrun⟩ := slice_run (w := w1) a n c j z (by omega)
            have hwz : IntKind.i64.wrap ((j : Int) + z) = (j : Int) + z := IntWalk.i64_in _ (by omega)
            have RR : Hid (Reads w1 ao ((bs.drop j).take z)) := Lib.hid (reads_take (hcut.2.2.1 bs NN.out (by rw [L.out]; exact hc) (Reads.later R.out B1.out)) z)
            have FF : Hid (¬ (j = 0 ∨ W < 0 ∨ x < z ∨ 4096 < z ∨ n < j + z)) := Lib.hid (by omega)
            clear hcut
            go_wp2
            go_quiet (fail)
            go_wp2
            go_ret3
            refine ⟨0, (bs.drop j).take z, (j : Int) + z, ao, z, co, rfl, RR.out, by rw [List.length_take, List.length_drop, L.out]; omega, B1.out.trans (below_draws _ _ _), ?_⟩
            show Gotten bs k x _ _ _
            unfold Gotten
            rw [if_neg (by omega), if_pos hk]
            exact ⟨z, j, NB.out, by rw [if_neg (by rw [L.out, WH.out]; exact FF.out)]; exact ⟨rfl, rfl, by omega⟩⟩

set_option maxRecDepth 100000 in
set_option maxHeartbeats 4000000 in
theorem got_ok2 {w : World} {a : Option Addr} {n c : Nat} {bs : List Int} (q : Pt) (hr : Reads w a bs) (hl : bs.length = n) (hb : Bytes bs) (hc : n ≤ c) (hnone : a = none → c = 0) (hbig : n ≤ 2000) (hq : q.x < 18446744073709551616) (hk : Byte q.kind) (hkk : q.kind % 4 = 2) :
    Calls Try.prog 22 #[.slice a n c, q.agg] w (GotPost w bs q) := by
  have KA := Keeps.alloc w (.cells #[.int .u8 q.kind, .int .u64 q.x, .slice q.a q.n q.c] 42) (fun _ => False)
  have BA : Hid (Below w.heap.size w (w.alloc (.cells #[.int .u8 q.kind, .int .u64 q.x, .slice q.a q.n q.c] 42))) := Lib.hid (KA.below (fun _ _ h => h))
  have R := Lib.hid hr
  have R1 : Hid (Reads (w.alloc (.cells #[.int .u8 q.kind, .int .u64 q.x, .slice q.a q.n q.c] 42)) a bs) := Lib.hid (Reads.later hr BA.out)
  have L := Lib.hid hl
  have B := Lib.hid hb
  have NN := Lib.hid hnone
  have X := Lib.hid hq
  clear hr hl hb hnone hq KA
  obtain ⟨k, x, qa, qn, qc, qbs⟩ := q
  simp only [Pt.agg] at *
  have hk' := hkk
  clear hkk
  obtain ⟨k0, k1⟩ := hk
  have hk := hk'
  clear hk'
  by_cases h0 : wrap64 x < 0
  · go_enter Try.func22, Try.ntmps22
    go_wp2
    go_ret3
    refine got_fail BA.out ?_
    show Gotten bs k x _ _ _
    unfold Gotten
    rw [if_neg (by omega), if_neg (by omega), if_pos hk, if_pos (.inl h0)]
    exact ⟨rfl, rfl, rfl⟩
  · by_cases h1 : (n : Int) < wrap64 x
    · go_enter Try.func22, Try.ntmps22
      go_wp2
      go_ret3
      refine got_fail BA.out ?_
      show Gotten bs k x _ _ _
      unfold Gotten
      rw [if_neg (by omega), if_neg (by omega), if_pos hk, if_pos (.inr (by rw [L.out]; exact h1))]
      exact ⟨rfl, rfl, rfl⟩
    · obtain ⟨m, hm⟩ : ∃ m : Nat, wrap64 x = m := ⟨(wrap64 x).toNat, by omega⟩
      have hmn : m ≤ n := by omega
      obtain ⟨ao, co, hcut, hrun⟩ := upto_run (w := w) a n c m (by omega)
      have RR : Hid (Reads w ao (bs.take m)) := Lib.hid (reads_take (hcut.2.2.1 bs NN.out (by rw [L.out]; exact hc) R.out) m)
      have M := Lib.hid hm
      clear hcut h0 h1
      go_enter Try.func22, Try.ntmps22
      go_wp2
      go_quiet (fail)
      go_wp2
      go_ret3
      refine ⟨0, bs.take m, m, ao, m, co, rfl, Reads.later RR.out (BA.out.trans (below_draws _ _ _)), by rw [List.length_take, L.out]; omega, BA.out.trans (below_draws _ _ _), ?_⟩
      show Gotten bs k x _ _ _
      unfold Gotten
      rw [if_neg (by omega), if_neg (by omega), if_pos hk, if_neg (by rw [L.out, M.out]; omega), M.out]
      exact ⟨rfl, by rw [Int.toNat_natCast], rfl⟩

set_option maxRecDepth 100000 in
set_option maxHeartbeats 4000000 in
theorem got_ok3 {w : World} {a : Option Addr} {n c : Nat} {bs : List Int} (q : Pt) (hr : Reads w a bs) (hl : bs.length = n) (hb : Bytes bs) (hc : n ≤ c) (hnone : a = none → c = 0) (hbig : n ≤ 2000) (hq : q.x < 18446744073709551616) (hk : Byte q.kind) (hkk : q.kind % 4 = 3) :
    Calls Try.prog 22 #[.slice a n c, q.agg] w (GotPost w bs q) := by
  have KA := Keeps.alloc w (.cells #[.int .u8 q.kind, .int .u64 q.x, .slice q.a q.n q.c] 42) (fun _ => False)
  have BA : Hid (Below w.heap.size w (w.alloc (.cells #[.int .u8 q.kind, .int .u64 q.x, .slice q.a q.n q.c] 42))) := Lib.hid (KA.below (fun _ _ h => h))
  have R := Lib.hid hr
  have R1 : Hid (Reads (w.alloc (.cells #[.int .u8 q.kind, .int .u64 q.x, .slice q.a q.n q.c] 42)) a bs) := Lib.hid (Reads.later hr BA.out)
  have L := Lib.hid hl
  have B := Lib.hid hb
  have NN := Lib.hid hnone
  have X := Lib.hid hq
  clear hr hl hb hnone hq KA
  obtain ⟨k, x, qa, qn, qc, qbs⟩ := q
  simp only [Pt.agg] at *
  have hk' := hkk
  clear hkk
  obtain ⟨k0, k1⟩ := hk
  have hk := hk'
  clear hk'
  by_cases h0 : n = 0
  · subst h0
    go_enter Try.func22, Try.ntmps22
    go_wp2
    go_ret3
    refine got_fail BA.out ?_
    show Gotten bs k x _ _ _
    unfold Gotten
    rw [if_neg (by omega), if_neg (by omega), if_neg (by omega), if_pos (.inl (List.eq_nil_of_length_eq_zero L.out))]
    exact ⟨rfl, rfl, rfl⟩
  · obtain ⟨ad, b, rfl, hcell, b0, b255, hbe⟩ := reads_byte R1.out B.out (k := 0) (by rw [L.out]; omega)
    have hcell : (w.alloc (.cells #[.int .u8 k, .int .u64 x, .slice qa qn qc] 42)).cell? ad = some (.int .u8 b) := hcell
    have BE := Lib.hid hbe
    have hpos : 0 < n := by omega
    clear hbe
    by_cases h1 : 1 < b
    · go_enter Try.func22, Try.ntmps22
      go_wp2
      go_ret3
      refine got_fail BA.out ?_
      show Gotten bs k x _ _ _
      unfold Gotten
      rw [if_neg (by omega), if_neg (by omega), if_neg (by omega), if_pos (.inr (by rw [BE.out]; exact h1))]
      exact ⟨rfl, rfl, rfl⟩
    · obtain ⟨bn, rfl⟩ : ∃ bn : Nat, b = bn := ⟨b.toNat, by omega⟩
      go_enter Try.func22, Try.ntmps22
      go_wp2
      go_ret3
      refine ⟨bn, [], 1, none, 0, 0, rfl, Reads.nil _ _, rfl, BA.out, ?_⟩
      show Gotten bs k x _ _ _
      unfold Gotten
      rw [if_neg (by omega), if_neg (by omega), if_neg (by omega), if_neg (by rw [BE.out]; rintro (h | h); have := L.out; rw [h] at this; simp at this; omega; omega), BE.out]
      exact ⟨rfl, rfl, rfl⟩

theorem got_ok {w : World} {a : Option Addr} {n c : Nat} {bs : List Int} (q : Pt) (hr : Reads w a bs) (hl : bs.length = n) (hb : Bytes bs) (hc : n ≤ c) (hnone : a = none → c = 0) (hbig : n ≤ 2000) (hq : q.x < 18446744073709551616) (hk : Byte q.kind) :
    Calls Try.prog 22 #[.slice a n c, q.agg] w (GotPost w bs q) := by
  rcases kind_cases q.kind with h | h | h | h
  · exact got_ok0 q hr hl hb hc hnone hbig hq hk h
  · exact got_ok1 q hr hl hb hc hnone hbig hq hk h
  · exact got_ok2 q hr hl hb hc hnone hbig hq hk h
  · exact got_ok3 q hr hl hb hc hnone hbig hq hk h
end Go.Proofs.Ytjpnbgimhmgooaa
