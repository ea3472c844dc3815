/- PackTakes answers true for every slice of bytes and every slice of parts, and writes nothing that was there. No condition. -/
import Derived.Test.YtjpnbgimhmgooaaE2
import Derived.Test.YtjpnbgimhmgooaaRows
import Derived.ShutString
namespace Go.Proofs.Ytjpnbgimhmgooaa.packTakes
open Go.ChangeShapes Go.WideShapes Go.ChangeAt Go.RowKit
set_option linter.unusedVariables false

theorem own : ownKnob Try.prog.godebug = none := by kernel_rfl
theorem laidOut : laidOutB Try.prog = true := by kernel_rfl

/-- Both arguments small: the law itself; else: it is awake. -/
theorem walk (a : Option Addr) (n c : Nat) (bs : List Int) (al : Option Addr) (nl cl : Nat) (l : List Pt) (w : World) (hr : Reads w a bs) (hb : Bytes bs) (hl : bs.length = n) (hnc : n ≤ c) (hnone : a = none → c = 0)
    (hL : PtsAt w al l) (hll : l.length = nl) :
    Calls Try.prog 7 #[.slice a n c, .slice al nl cl] w fun e w' => e = .returned (.bool true) ∧ Below w.heap.size w w' := by
  by_cases h1 : n ≤ 2000
  · by_cases h2 : nl ≤ 40
    · exact packTakes_small a n c bs al nl cl l w hr hb hl hnc hnone h1 hL hll h2
    · clear hr hb hl hnc hnone hL hll
      go_enter Try.func7, Try.ntmps7
      go_wp2_with fail
      refine (awake_ok w).mono ?_
      rintro e w1 ⟨rfl, b1⟩
      have B1 := Lib.hid b1
      clear b1
      go_wp2_with fail
      refine (awake_ok w1).mono ?_
      rintro e w2 ⟨rfl, b2⟩
      have B2 := Lib.hid b2
      clear b2
      go_wp2
      go_ret
      exact ⟨rfl, B1.out.trans (B2.out.mono B1.out.size)⟩
  · clear hr hb hl hnc hnone hL hll
    go_enter Try.func7, Try.ntmps7
    go_wp2_with fail
    refine (awake_ok w).mono ?_
    rintro e w1 ⟨rfl, b1⟩
    have B1 := Lib.hid b1
    clear b1
    go_wp2_with fail
    refine (awake_ok w1).mono ?_
    rintro e w2 ⟨rfl, b2⟩
    have B2 := Lib.hid b2
    clear b2
    go_wp2
    go_ret
    exact ⟨rfl, B1.out.trans (B2.out.mono B1.out.size)⟩

set_option maxRecDepth 100000 in
theorem lifted (os : Os) (started : os.Started) (H : Type) (enc : TypeId × Value → H) :
    ReturnsInHanded {} Try.checked os 7 .any (Rows.packTakesSpec.pre6 enc Try.prog Try.f7 Rows.packTakesRow.domain false) (Rows.packTakesSpec.post enc Try.prog Try.f7 false true false false) := by
  refine returnsInHanded_of_change (C := Try.checked) own started (by kernel_rfl) Try.func7
    (ChangeSpec.witness6 (enc := enc) (C := Try.checked) false ⟨#[], #[.slice none 0 0, .slice none 0 0], []⟩ 8 (by kernel_rfl) (by kernel_rfl) (by kernel_rfl) (by kernel_rfl)) ?_
  intro W base args ds gs before hval0 hW hcnd _
  have hval : ∀ (j : Nat) t v, Try.f7.params[j]? = some t → args[j]? = some v → Value.okWide Try.prog W .any base t v := hval0
  have hW' := hW
  obtain ⟨p, q, hA0, hV, rfl, hfz, hnd⟩ := hW
  have hA : DataW.TrodAll enc Try.prog W 0 (fun _ => true) true Try.f7.params.toList args.toList ds p := hA0
  rw [Try.params7] at hA hval
  obtain ⟨v0, vs0, d0, ds0, p0, q0, hargs, rfl, rfl, h0, r0⟩ := trodAll_cons hA
  obtain ⟨v1, vs1, d1, ds1, p1, q1, rfl, rfl, rfl, h1, r1⟩ := trodAll_cons r0
  obtain ⟨rfl, rfl, rfl⟩ := trodAll_nil r1
  obtain rfl : args = #[v0, v1] := by cases args; simp_all
  obtain ⟨rfl, rfl⟩ := trodVars_none hV
  have k0 := h0
  have k1 := h1
  have lt0 : ∀ x ∈ p0, x.block < W.heap.size := by obtain ⟨m, hm⟩ := k0; exact DataW.trod_lt m _ _ _ hm
  have lt1 : ∀ x ∈ p1, x.block < W.heap.size := by obtain ⟨m, hm⟩ := k1; exact DataW.trod_lt m _ _ _ hm
  obtain ⟨a0, n0, c0, bs, rfl, hr, hl, hb, hnc, _, hnone, _⟩ := row_arg h0 (okWide_slice Try.underlying22 (hval 0 22 v0 rfl rfl))
  obtain ⟨a1, n1, c1, l, rfl, hL, hll, _, _, _, _⟩ := parts_arg h1 (okWide_slice Try.underlying36 (hval 1 36 v1 rfl rfl))
  clear hA0 hval0
  refine (walk a0 n0 c0 bs a1 n1 c1 l W hr hb hl hnc hnone hL hll).mono fun e W' ⟨he, bel⟩ => ?_
  subst he
  exact ⟨_, rfl, _, _, _, [], _, [], hW', trodAll_mk1 (shut_bool Try.underlying4 _), (trodAll_cons_mk (Below.trod laidOut (by kernel_rfl) (of_decide_eq_true (by kernel_rfl)) k0 bel lt0) (trodAll_cons_mk (Below.trod laidOut (by kernel_rfl) (of_decide_eq_true (by kernel_rfl)) k1 bel lt1) trodAll_mk0)), rfl, bel.frame _, fun h => by cases h⟩

theorem over : Rows.packTakesRow.holds Try.pinned (OpenSpec.ofChange Rows.packTakesSpec) :=
  OpenClaim.holds_of_wide 7 Try.f7 rfl rfl rfl rfl rfl rfl rfl ⟨rfl, rfl, rfl, rfl, rfl⟩ rfl rfl rfl rfl rfl (by kernel_rfl) Try.func7 (by kernel_rfl)
    (of_decide_eq_true (by kernel_rfl)) (by unfold Func.isWrapper; first | (rw [if_pos (by decide +kernel)]; kernel_rfl) | (rw [if_neg (by decide +kernel)]; exact ⟨rfl, rfl⟩))
    (fun os started H enc _ => lifted os started H enc)

/-- The statement. -/
theorem proved : Rows.PackTakesSaid := over
#print axioms proved
end Go.Proofs.Ytjpnbgimhmgooaa.packTakes
