/- A double round of the code. -/
import Derived.Test.YtmineipjnllopaaB1
namespace Go.Proofs.Ytmineipjnllopaa
open Go.RowKit
set_option linter.unusedVariables false

theorem Words.half {s : List Int} (h : Words s) {a b c d m n : Nat} (ha : a < 16) (hb : b < 16) (hc : c < 16) (hd : d < 16) (hm : m ≤ 16) (hn : n ≤ 16) : Words (half s a b c d m n) :=
  (((h.upd a b).twd hd ha hm).upd c d).twd hb hc hn
theorem Words.qr {s : List Int} (h : Words s) {a b c d : Nat} (ha : a < 16) (hb : b < 16) (hc : c < 16) (hd : d < 16) : Words (qr s a b c d) :=
  (h.half ha hb hc hd (by decide) (by decide)).half ha hb hc hd (by decide) (by decide)

def dbl (s : List Int) : List Int := qr (qr (qr (qr (qr (qr (qr (qr s 0 4 8 12) 1 5 9 13) 2 6 10 14) 3 7 11 15) 0 5 10 15) 1 6 11 12) 2 7 8 13) 3 4 9 14
theorem Words.dbl {s : List Int} (h : Words s) : Words (dbl s) := by
  unfold Go.Proofs.Ytmineipjnllopaa.dbl
  iterate 8 (refine Words.qr ?_ (by decide) (by decide) (by decide) (by decide))
  exact h

theorem quarter_lit (a b c d : Nat) (A B C D : Int) (eA : A = a) (eB : B = b) (eC : C = c) (eD : D = d) (ha : a < 16) (hb : b < 16) (hc : c < 16) (hd : d < 16) (g : Nat) (s : List Int) (w : World) (hw : Words s) (hg : GridAt w 44 g s) :
    Calls Try.prog 22 #[.pointer (some ⟨g, 0, none⟩), .int .i64 A, .int .i64 B, .int .i64 C, .int .i64 D] w fun e w' =>
      (∃ v, e = .returned v) ∧ GridAt w' 44 g (qr s a b c d) ∧ Keeps w w' (fun k => k = g) := by
  subst eA eB eC eD
  exact quarter_ok a b c d ha hb hc hd g s w hw hg

set_option maxHeartbeats 4000000 in
set_option maxRecDepth 100000 in
theorem double_ok (g : Nat) (s : List Int) (w : World) (hw : Words s) (hg : GridAt w 44 g s) :
    Calls Try.prog 16 #[.pointer (some ⟨g, 0, none⟩)] w fun e w' => (∃ v, e = .returned v) ∧ GridAt w' 44 g (dbl s) ∧ Keeps w w' (fun k => k = g) := by
  have HG := Lib.hid hg
  have HW := Lib.hid hw
  clear hg hw
  go_enter Try.func16, Try.ntmps16
  go_wp2
  refine wp_loop_rounds 5 ?_
  rw [rounds_succ]
  go_wp2_with fail
  refine (quarter_lit 0 4 8 12 _ _ _ _ (by rfl) (by rfl) (by rfl) (by rfl) (by decide) (by decide) (by decide) (by decide) g s _ HW.out HG.out).mono ?_
  rintro e w1 ⟨⟨v, rfl⟩, hg1, k1⟩
  have KK := Lib.hid k1
  obtain ⟨s0, e1⟩ : ∃ t, t = qr s 0 4 8 12 := ⟨_, rfl⟩
  rw [← e1] at hg1
  have HG := Lib.hid hg1
  have HW : Hid (Words s0) := Lib.hid (by rw [e1]; exact HW.out.qr (by decide) (by decide) (by decide) (by decide))
  have E0 := Lib.hid e1
  clear hg1 k1 e1
  go_wp2
  rw [rounds_succ]
  go_wp2_with fail
  refine (quarter_lit 1 5 9 13 _ _ _ _ (by rfl) (by rfl) (by rfl) (by rfl) (by decide) (by decide) (by decide) (by decide) g s0 _ HW.out HG.out).mono ?_
  rintro e w1 ⟨⟨v, rfl⟩, hg1, k1⟩
  have KK := Lib.hid (KK.out.trans k1 (fun _ _ h => h))
  obtain ⟨s1, e1⟩ : ∃ t, t = qr s0 1 5 9 13 := ⟨_, rfl⟩
  rw [← e1] at hg1
  have HG := Lib.hid hg1
  have HW : Hid (Words s1) := Lib.hid (by rw [e1]; exact HW.out.qr (by decide) (by decide) (by decide) (by decide))
  have E1 := Lib.hid e1
  clear hg1 k1 e1
  go_wp2
  rw [rounds_succ]
  go_wp2_with fail
  refine (quarter_lit 2 6 10 14 _ _ _ _ (by rfl) (by rfl) (by rfl) (by rfl) (by decide) (by decide) (by decide) (by decide) g s1 _ HW.out HG.out).mono ?_
  rintro e w1 ⟨⟨v, rfl⟩, hg1, k1⟩
  have KK := Lib.hid (KK.out.trans k1 (fun _ _ h => h))
  obtain ⟨s2, e1⟩ : ∃ t, t = qr s1 2 6 10 14 := ⟨_, rfl⟩
  rw [← e1] at hg1
  have HG := Lib.hid hg1
  have HW : Hid (Words s2) := Lib.hid (by rw [e1]; exact HW.out.qr (by decide) (by decide) (by decide) (by decide))
  have E2 := Lib.hid e1
  clear hg1 k1 e1
  go_wp2
  rw [rounds_succ]
  go_wp2_with fail
  refine (quarter_lit 3 7 11 15 _ _ _ _ (by rfl) (by rfl) (by rfl) (by rfl) (by decide) (by decide) (by decide) (by decide) g s2 _ HW.out HG.out).mono ?_
  rintro e w1 ⟨⟨v, rfl⟩, hg1, k1⟩
  have KK := Lib.hid (KK.out.trans k1 (fun _ _ h => h))
  obtain ⟨s3, e1⟩ : ∃ t, t = qr s2 3 7 11 15 := ⟨_, rfl⟩
  rw [← e1] at hg1
  have HG := Lib.hid hg1
  have HW : Hid (Words s3) := Lib.hid (by rw [e1]; exact HW.out.qr (by decide) (by decide) (by decide) (by decide))
  have E3 := Lib.hid e1
  clear hg1 k1 e1
  go_wp2
  rw [rounds_succ]
  go_wp2
  refine wp_loop_rounds 5 ?_
  rw [rounds_succ]
  go_wp2_with fail
  refine (quarter_lit 0 5 10 15 _ _ _ _ (by rfl) (by rfl) (by rfl) (by rfl) (by decide) (by decide) (by decide) (by decide) g s3 _ HW.out HG.out).mono ?_
  rintro e w1 ⟨⟨v, rfl⟩, hg1, k1⟩
  have KK := Lib.hid (KK.out.trans k1 (fun _ _ h => h))
  obtain ⟨s4, e1⟩ : ∃ t, t = qr s3 0 5 10 15 := ⟨_, rfl⟩
  rw [← e1] at hg1
  have HG := Lib.hid hg1
  have HW : Hid (Words s4) := Lib.hid (by rw [e1]; exact HW.out.qr (by decide) (by decide) (by decide) (by decide))
  have E4 := Lib.hid e1
  clear hg1 k1 e1
  go_wp2
  rw [rounds_succ]
  go_wp2_with fail
  refine (quarter_lit 1 6 11 12 _ _ _ _ (by rfl) (by rfl) (by rfl) (by rfl) (by decide) (by decide) (by decide) (by decide) g s4 _ HW.out HG.out).mono ?_
  rintro e w1 ⟨⟨v, rfl⟩, hg1, k1⟩
  have KK := Lib.hid (KK.out.trans k1 (fun _ _ h => h))
  obtain ⟨s5, e1⟩ : ∃ t, t = qr s4 1 6 11 12 := ⟨_, rfl⟩
  rw [← e1] at hg1
  have HG := Lib.hid hg1
  have HW : Hid (Words s5) := Lib.hid (by rw [e1]; exact HW.out.qr (by decide) (by decide) (by decide) (by decide))
  have E5 := Lib.hid e1
  clear hg1 k1 e1
  go_wp2
  rw [rounds_succ]
  go_wp2_with fail
  refine (quarter_lit 2 7 8 13 _ _ _ _ (by rfl) (by rfl) (by rfl) (by rfl) (by decide) (by decide) (by decide) (by decide) g s5 _ HW.out HG.out).mono ?_
  rintro e w1 ⟨⟨v, rfl⟩, hg1, k1⟩
  have KK := Lib.hid (KK.out.trans k1 (fun _ _ h => h))
  obtain ⟨s6, e1⟩ : ∃ t, t = qr s5 2 7 8 13 := ⟨_, rfl⟩
  rw [← e1] at hg1
  have HG := Lib.hid hg1
  have HW : Hid (Words s6) := Lib.hid (by rw [e1]; exact HW.out.qr (by decide) (by decide) (by decide) (by decide))
  have E6 := Lib.hid e1
  clear hg1 k1 e1
  go_wp2
  rw [rounds_succ]
  go_wp2_with fail
  refine (quarter_lit 3 4 9 14 _ _ _ _ (by rfl) (by rfl) (by rfl) (by rfl) (by decide) (by decide) (by decide) (by decide) g s6 _ HW.out HG.out).mono ?_
  rintro e w1 ⟨⟨v, rfl⟩, hg1, k1⟩
  have KK := Lib.hid (KK.out.trans k1 (fun _ _ h => h))
  obtain ⟨s7, e1⟩ : ∃ t, t = qr s6 3 4 9 14 := ⟨_, rfl⟩
  rw [← e1] at hg1
  have HG := Lib.hid hg1
  have HW : Hid (Words s7) := Lib.hid (by rw [e1]; exact HW.out.qr (by decide) (by decide) (by decide) (by decide))
  have E7 := Lib.hid e1
  clear hg1 k1 e1
  go_wp2
  rw [rounds_succ]
  go_wp2
  go_end0
  refine ⟨⟨_, rfl⟩, ?_, KK.out⟩
  have := HG.out
  rw [E7.out, E6.out, E5.out, E4.out, E3.out, E2.out, E1.out, E0.out] at this
  exact this
end Go.Proofs.Ytmineipjnllopaa
