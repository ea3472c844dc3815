/- PackPuts: the walk. -/
import Derived.Test.YtjpnbgimhmgooaaF1
namespace Go.Proofs.Ytjpnbgimhmgooaa
open Go.RowKit
set_option linter.unusedVariables false

theorem two_new (w : World) {w1 : World} (b : Below w.heap.size w w1) : Two w (w1.alloc (.cells #[.slice none 0 0, .bool false] 30)) w1.heap.size (.slice none 0 0) false [] (.slice none 0 0) [] :=
  ⟨outAt_new w1, ⟨Own.nil _, (fun k hk => by cases hk), b.alloc b.size _⟩, (fun j hj => by cases hj), (fun j hj => by rcases hj with e | e; have := b.size; omega; cases e)⟩

set_option maxRecDepth 100000 in
set_option maxHeartbeats 4000000 in
theorem packPuts_few (al : Option Addr) (nl cl : Nat) (l : List Pt) (w : World) (hL : PtsAt w al l) (hll : l.length = nl) (hbulk : ptSum l ≤ 1048576) (hbig : nl ≤ 9223372036854775807) :
    Calls Try.prog 4 #[.slice al nl cl] w fun e w' => e = .returned (.bool true) ∧ Below w.heap.size w w' := by
  have PL := Lib.hid hL
  have LL := Lib.hid hll
  have BU := Lib.hid hbulk
  clear hL hll hbulk
  go_enter Try.func4, Try.ntmps4
  go_wp2_with fail
  refine (awake_ok w).mono ?_
  rintro e w1 ⟨rfl, b1⟩
  have B1 := Lib.hid b1
  have PL1 := Lib.hid (PL.out.later b1)
  clear b1
  go_wp2_with fail
  refine (few_ok al nl cl l PL1.out LL.out hbig).mono ?_
  rintro e w2 ⟨r, rfl, rfl, hr⟩
  cases r
  · clear hr
    go_wp2_with fail
    refine (awake_ok w1).mono ?_
    rintro e w2 ⟨rfl, b2⟩
    have B2 := Lib.hid b2
    clear b2
    go_wp2
    go_ret
    exact ⟨rfl, B1.out.trans (B2.out.mono B1.out.size)⟩
  · have hnl := hr rfl
    clear hr
    have T0 := Lib.hid (two_new w B1.out)
    go_wp2
    go_loopw [4, 5, 6] (fun t4 t5 t6 wr => PutsRel w w1.heap.size nl l t4 t5 t6 wr) (fun _ _ i _ => nl - (intOf i).toNat)
    case atStart => exact ⟨0, none, 0, 0, true, [], _, rfl, rfl, rfl, Nat.zero_le _, by simp, T0.out⟩
    case round =>
      obtain ⟨k, a, n, c, good, xs, v, rfl, rfl, rfl, hk, hxl, hT⟩ := hrel
      have T := Lib.hid hT
      have XL := Lib.hid hxl
      have XB : Hid (xs.length ≤ 1049000) := Lib.hid (by have := ptSum_le l k; have := BU.out; omega)
      clear hT hxl
      by_cases hlt : k < nl
      · obtain ⟨bl, off, q, rfl, hq, hpa⟩ := part_here (PL.out.later T.out.mine.below) (k := k) (by rw [LL.out]; exact hlt)
        have hpw : PtOk w q := by
          obtain ⟨bl0, off0, e0, hpw⟩ := PL.out.2 k q hq
          exact hpw.ok
        have PA := Lib.hid hpa
        have PW := Lib.hid hpw
        have Q := Lib.hid hq
        have d0 := hpa.c0
        have d1 := hpa.c1
        have d2 := hpa.c2
        have QN : Hid (q.n ≤ 1048576) := Lib.hid (by rw [← hpa.ok.len]; have := ptSum_get hq; have := BU.out; omega)
        clear hpa hpw hq
        go_wp2_with fail
        refine (put_part _ v (!good) xs q wr T.out.out PA.out.ok (fun x hx hp hf => by
          have hc := PW.out.reads.2 x hx 0 (by rw [PW.out.len]; exact hp)
          have hlt := World.block_lt_of_cell? w _ hc
          rw [add_block] at hlt
          have := T.out.foot _ hf
          omega) (by have := XB.out; have := QN.out; omega)).mono ?_
        rintro e w3 ⟨rfl, hp3⟩
        have P3 := Lib.hid hp3
        obtain ⟨v0, t0⟩ := part_step T.out hp3 (ok := decide (¬ pbad q)) (by simp)
        have B3 := Lib.hid t0.mine.below
        clear hp3 t0 v0
        obtain ⟨bl', off', e', hpa3⟩ := (PL.out.later B3.out).2 k q Q.out
        obtain ⟨rfl, rfl⟩ : bl = bl' ∧ off = off' := by cases e'; exact ⟨rfl, rfl⟩
        have PA3 := Lib.hid hpa3
        have g0 := hpa3.c0
        have g1 := hpa3.c1
        have g2 := hpa3.c2
        clear e' hpa3 d0 d1 d2
        go_wp2_with fail
        refine (rbytes_ok q PA3.out.ok (by have := QN.out; omega)).mono ?_
        rintro e w4 ⟨ab, nb, cb, ys, ok, rfl, hok, hys, hyr, hyl, hyn, hb4⟩
        obtain ⟨v4, t4⟩ := part_step T.out P3.out hok
        have T4 := Lib.hid (t4.later hb4)
        have YR := Lib.hid hyr
        have YL := Lib.hid hyl
        have YN := Lib.hid hyn
        have YS : Hid (ys = padd q) := Lib.hid hys
        have YB : Hid (xs.length + nb ≤ 140737488355328) := Lib.hid (by have := padd_length PA3.out.ok; rw [← YS.out, hyl, PA3.out.ok.len] at this; have := XB.out; have := QN.out; omega)
        clear hok hys hyr hyl hyn hb4 t4
        cases good <;> cases ok
        all_goals
          go_wp2_with (at_builtin; refine app_law rfl _ _ rfl _ xs rfl T4.out.mine.own ab nb cb ys rfl YN.out YR.out YL.out YB.out ?_)
          intro a' n' c' w5 hown hn' hkp hf _
          have t5 := T4.out.app hown hkp hf
          rw [YS.out] at t5
          have T5 := Lib.hid t5
          clear t5
          clear hown hn' hkp hf
          go_wp2
          go_roundw
          case rel => exact puts_next hlt Q.out PA3.out.ok XL.out T5.out
          case measure => simp [intOf]; omega
      · have hn := T.out.mine.own.reads.2
        have N := Lib.hid hn
        have NB : n ≤ 1049000 := by have := XB.out; omega
        clear hn
        cases good
        · go_wp2_with fail
          refine (oend_ok _ v true xs wr T.out.out (by have := XB.out; omega)).mono ?_
          intro e w5 he
          unfold EndPost at he
          rw [if_pos (.inl rfl)] at he
          obtain ⟨rfl, rfl⟩ := he
          go_wp2
          go_ret
          exact ⟨rfl, T.out.mine.below⟩
        · by_cases hl : 16384 < n
          · go_wp2_with fail
            refine (oend_ok _ v false xs wr T.out.out (by have := XB.out; omega)).mono ?_
            intro e w5 he
            unfold EndPost at he
            rw [if_pos (.inr (by rw [N.out]; exact hl))] at he
            obtain ⟨rfl, rfl⟩ := he
            go_wp2
            go_ret
            exact ⟨rfl, T.out.mine.below⟩
          · go_wp2_with fail
            refine (oend_ok _ v false xs wr T.out.out (by have := XB.out; omega)).mono ?_
            intro e w5 he
            obtain ⟨ac, nc, cc, rfl, oc, b5, f5⟩ := endPost_ok he (by rw [N.out]; omega)
            have T5 := Lib.hid (T.out.later b5)
            have C5 := Lib.hid oc
            clear he oc b5 f5
            go_wp2_with fail
            refine (oend_ok _ v false xs w5 T5.out.out (by have := XB.out; omega)).mono ?_
            intro e w6 he
            obtain ⟨ad, nd, cd, rfl, od, b6, f6⟩ := endPost_ok he (by rw [N.out]; omega)
            have T6 := Lib.hid (T5.out.later b6)
            have C6 := C5.out.keeps (Keeps.of_below b6 (S := fun _ => False)) (fun _ _ h => h)
            have s1 := str_ok (c := cc) C6.reads.1 C6.reads.2
            have s2 := str_ok (c := cd) od.reads.1 od.reads.2
            have s3 := str_ok (c := c) T6.out.mine.own.reads.1 T6.out.mine.own.reads.2
            clear he od b6 f6 C6
            go_wp2
            go_ret
            exact ⟨rfl, T6.out.mine.below⟩
end Go.Proofs.Ytjpnbgimhmgooaa
