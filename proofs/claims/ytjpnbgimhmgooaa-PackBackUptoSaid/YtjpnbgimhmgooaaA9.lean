/- The contracts of Text and Flag of the reading half (In). -/
import Derived.Test.YtjpnbgimhmgooaaA8
namespace Go.Proofs.Ytjpnbgimhmgooaa
open Go.RowKit
set_option linter.unusedVariables false

def IFlagPost (w : World) (p : Nat) (a : Option Addr) (bad : Bool) (bs : List Int) (e : Ending) (w' : World) : Prop :=
  if bad = true ∨ bs = [] ∨ 1 < bs.getD 0 0 then e = .returned (.bool false) ∧ InPost w p a true bs w'
  else e = .returned (.bool (bs.getD 0 0 == 1)) ∧ InPost w p a bad (bs.drop 1) w'

set_option maxRecDepth 100000 in
set_option maxHeartbeats 2000000 in
theorem iflag_ok {w : World} {p : Nat} {a : Option Addr} {n c : Nat} {bad : Bool} {bs : List Int} (h : InAt w p a n c bad bs) (hb : Bytes bs) :
    Calls Try.prog 31 #[.pointer (some ⟨p, 0, none⟩)] w (IFlagPost w p a bad bs) := by
  have H := Lib.hid h
  have B := Lib.hid hb
  have c0 : w.cell? ⟨p, 0, none⟩ = some (.slice a n c) := by rw [cell_of h.cells]; rfl
  have c1 : w.cell? ⟨p, 1, none⟩ = some (.bool bad) := by rw [cell_of h.cells]; rfl
  have f0 : w.frozen? ⟨p, 0, none⟩ = false := frozen_of h.cells 0
  have hn : bs.length = n := h.len
  have N := Lib.hid hn
  clear h hn hb
  cases bad
  · by_cases h0 : n = 0
    · subst h0
      go_enter Try.func31, Try.ntmps31
      go_wp2_with (go_at_call 24; refine (ifail_ok H.out).mono ?_; rintro e w1 ⟨rfl, ha, hk⟩)
      have A := Lib.hid ha
      have KK := Lib.hid hk
      clear ha hk
      go_wp2
      go_ret
      unfold IFlagPost
      rw [if_pos (.inr (.inl (List.eq_nil_of_length_eq_zero N.out)))]
      exact ⟨rfl, in_same A.out KK.out⟩
    · have hpos : 0 < n := by omega
      obtain ⟨ad, b, rfl, hcell, b0, b255, hbe⟩ := in_byte H.out B.out hpos
      have hcell : w.cell? ad = some (.int .u8 b) := hcell
      have BE := Lib.hid hbe
      clear hbe
      by_cases h1 : 1 < b
      · go_enter Try.func31, Try.ntmps31
        go_wp2_with (go_at_call 24; refine (ifail_ok H.out).mono ?_; rintro e w1 ⟨rfl, ha, hk⟩)
        have A := Lib.hid ha
        have KK := Lib.hid hk
        clear ha hk
        go_wp2
        go_ret
        unfold IFlagPost
        rw [if_pos (.inr (.inr (by rw [BE.out]; exact h1)))]
        exact ⟨rfl, in_same A.out KK.out⟩
      · go_enter Try.func31, Try.ntmps31
        go_wp2_with (refine from_law rfl _ _ rfl (some ad) n c 1 rfl .i64 1 rfl rfl (by omega) ?_)
        intro ao2 n2 c2 hn2 hc2
        have C2 := Lib.hid hc2
        have N2 := Lib.hid hn2
        clear hc2 hn2
        go_wp2
        go_ret
        unfold IFlagPost
        rw [if_neg (by
          rintro (h | h | h)
          · cases h
          · have := N.out; rw [h] at this; simp at this; omega
          · rw [BE.out] at h; omega), BE.out]
        exact ⟨rfl, in_cut H.out C2.out (by omega) N2.out⟩
  · go_enter Try.func31, Try.ntmps31
    go_wp2_with (go_at_call 24; refine (ifail_ok H.out).mono ?_; rintro e w1 ⟨rfl, ha, hk⟩)
    have A := Lib.hid ha
    have KK := Lib.hid hk
    clear ha hk
    go_wp2
    go_ret
    unfold IFlagPost
    rw [if_pos (.inl rfl)]
    exact ⟨rfl, in_same A.out KK.out⟩

def ITextPost (w : World) (p : Nat) (a : Option Addr) (bad : Bool) (bs : List Int) (most : Int) (e : Ending) (w' : World) : Prop :=
  ∃ x k : Nat, Numb bs x k ∧
    if bad = true ∨ k = 0 ∨ most < 0 ∨ most < x ∨ 4096 < x ∨ bs.length < k + x then e = .returned (.slice none 0 0) ∧ InPost w p a true bs w'
    else ∃ a' n' c', e = .returned (.slice a' n' c') ∧ Own w' (.slice a' n' c') ((bs.drop k).take x) ∧ (∀ i, (Value.slice a' n' c').ownBlock = some i → w.heap.size ≤ i) ∧ InPost w p a bad (bs.drop (k + x)) w'

theorem text_end {w w1 : World} {p : Nat} {a ao : Option Addr} {n c n2 c2 k x : Nat} {bs : List Int} {v : Value} {e : Ending} (P1 : InAt (w.setCell ⟨p, 0, none⟩ v) p ao n2 c2 false (bs.drop k)) (N : bs.length = n) (N2 : n2 = n - k)
    (C : CutOf w a c k ao c2) (hk : k ≤ n) (hx : k + x ≤ n) (h : IRawPost (w.setCell ⟨p, 0, none⟩ v) p ao false (bs.drop k) x e w1) :
    ∃ a' n' c', e = .returned (.slice a' n' c') ∧ Own w1 (.slice a' n' c') ((bs.drop k).take x) ∧ (∀ i, (Value.slice a' n' c').ownBlock = some i → w.heap.size ≤ i) ∧ InPost w p a false (bs.drop (k + x)) w1 := by
  unfold IRawPost at h
  rw [if_neg (by rw [List.length_drop, N]; rintro (h | h | h); cases h; omega; omega)] at h
  obtain ⟨a', n', c', rfl, o, f, a3, n3, c3, h3, k3, b3⟩ := h
  rw [Int.toNat_natCast] at o h3
  rw [List.drop_drop] at h3
  refine ⟨a', n', c', rfl, o, ?_, a3, n3, c3, h3, ?_, ?_⟩
  · intro i hi; have := f i hi; simpa using this
  · exact (Keeps.setCell _ ⟨p, 0, none⟩ _ (S := Only p) rfl).trans k3 (fun _ _ h => h)
  · intro y hy
    obtain ⟨z, hz, e1⟩ := b3 y hy
    obtain ⟨u, hu, e2⟩ := C.2.1 z hz
    exact ⟨u, hu, e1.trans e2⟩

set_option maxRecDepth 100000 in
set_option maxHeartbeats 2000000 in
theorem itext_ok {w : World} {p : Nat} {a : Option Addr} {n c : Nat} {bad : Bool} {bs : List Int} (h : InAt w p a n c bad bs) (hb : Bytes bs) (hbig : bs.length ≤ 140737488355328) (most : Int) (hmost : most ≤ 9223372036854775807) :
    Calls Try.prog 30 #[.pointer (some ⟨p, 0, none⟩), .int .i64 most] w (ITextPost w p a bad bs most) := by
  have H := Lib.hid h
  have B := Lib.hid hb
  have c0 : w.cell? ⟨p, 0, none⟩ = some (.slice a n c) := by rw [cell_of h.cells]; rfl
  have c1 : w.cell? ⟨p, 1, none⟩ = some (.bool bad) := by rw [cell_of h.cells]; rfl
  have f0 : w.frozen? ⟨p, 0, none⟩ = false := frozen_of h.cells 0
  have hn : bs.length = n := h.len
  have N := Lib.hid hn
  have G := Lib.hid hbig
  have MM := Lib.hid hmost
  rw [hn] at hbig
  clear h hb hn hmost
  cases bad
  · go_enter Try.func30, Try.ntmps30
    go_wp2_with fail
    refine (inumber_ok H.out B.out G.out).mono ?_
    rintro e w1 ⟨x, k, rfl, hnb, rfl⟩
    have X := Lib.hid hnb
    have K := numb_le hnb
    have K10 := numb_ten hnb
    have XL := Lib.hid (numb_lt hnb)
    rw [N.out] at K
    clear hnb
    by_cases hk : k = 0
    · subst hk
      go_wp2_with (go_at_call 24; refine (ifail_ok H.out).mono ?_; rintro e w1 ⟨rfl, ha, hk⟩)
      have A := Lib.hid ha
      have KK := Lib.hid hk
      clear ha hk
      go_wp2
      go_ret
      refine ⟨x, 0, X.out, ?_⟩
      rw [if_pos (.inr (.inl rfl))]
      exact ⟨rfl, in_same A.out KK.out⟩
    · by_cases hm : most < 0
      · go_wp2_with (go_at_call 24; refine (ifail_ok H.out).mono ?_; rintro e w1 ⟨rfl, ha, hk⟩)
        have A := Lib.hid ha
        have KK := Lib.hid hk
        clear ha hk
        go_wp2
        go_ret
        refine ⟨x, k, X.out, ?_⟩
        rw [if_pos (.inr (.inr (.inl hm)))]
        exact ⟨rfl, in_same A.out KK.out⟩
      · have hkb : ((k : Int) == 0) = false := by simp; omega
        by_cases m1 : 4096 < most
        · by_cases m2 : (n : Int) - k < 4096
          · by_cases m3 : (n : Int) - k < (x : Int)
            · go_wp2_with (go_at_call 24; refine (ifail_ok H.out).mono ?_; rintro e w1 ⟨rfl, ha, hk⟩)
              have A := Lib.hid ha
              have KK := Lib.hid hk
              clear ha hk
              go_wp2
              go_ret
              refine ⟨x, k, X.out, ?_⟩
              rw [if_pos (by rw [N.out]; omega)]
              exact ⟨rfl, in_same A.out KK.out⟩
            · go_wp2_with (refine from_law rfl _ _ rfl a n c k rfl .i64 k rfl rfl K ?_)
              intro ao2 n2 c2 hn2 hc2
              have C2 := Lib.hid hc2
              have N2 := Lib.hid hn2
              have P1 := Lib.hid (in_rest H.out hc2 K hn2)
              clear hc2 hn2
              go_wp2_with fail
              refine (iraw_ok P1.out (by rw [List.length_drop, N.out]; omega) x).mono ?_
              intro e w1 hr
              obtain ⟨a1, n1, c1', rfl, T⟩ := text_end P1.out N.out N2.out C2.out (by omega) (by omega) hr
              have T1 := Lib.hid T
              clear T hr
              go_wp2
              go_ret
              refine ⟨x, k, X.out, ?_⟩
              rw [if_neg (by rw [N.out]; rintro (h | h | h | h | h | h); cases h; all_goals omega)]
              exact ⟨a1, n1, c1', rfl, T1.out⟩
          · by_cases m3 : 4096 < (x : Int)
            · go_wp2_with (go_at_call 24; refine (ifail_ok H.out).mono ?_; rintro e w1 ⟨rfl, ha, hk⟩)
              have A := Lib.hid ha
              have KK := Lib.hid hk
              clear ha hk
              go_wp2
              go_ret
              refine ⟨x, k, X.out, ?_⟩
              rw [if_pos (by rw [N.out]; omega)]
              exact ⟨rfl, in_same A.out KK.out⟩
            · go_wp2_with (refine from_law rfl _ _ rfl a n c k rfl .i64 k rfl rfl K ?_)
              intro ao2 n2 c2 hn2 hc2
              have C2 := Lib.hid hc2
              have N2 := Lib.hid hn2
              have P1 := Lib.hid (in_rest H.out hc2 K hn2)
              clear hc2 hn2
              go_wp2_with fail
              refine (iraw_ok P1.out (by rw [List.length_drop, N.out]; omega) x).mono ?_
              intro e w1 hr
              obtain ⟨a1, n1, c1', rfl, T⟩ := text_end P1.out N.out N2.out C2.out (by omega) (by omega) hr
              have T1 := Lib.hid T
              clear T hr
              go_wp2
              go_ret
              refine ⟨x, k, X.out, ?_⟩
              rw [if_neg (by rw [N.out]; rintro (h | h | h | h | h | h); cases h; all_goals omega)]
              exact ⟨a1, n1, c1', rfl, T1.out⟩
        · by_cases m2 : (n : Int) - k < most
          · by_cases m3 : (n : Int) - k < (x : Int)
            · go_wp2_with (go_at_call 24; refine (ifail_ok H.out).mono ?_; rintro e w1 ⟨rfl, ha, hk⟩)
              have A := Lib.hid ha
              have KK := Lib.hid hk
              clear ha hk
              go_wp2
              go_ret
              refine ⟨x, k, X.out, ?_⟩
              rw [if_pos (by rw [N.out]; omega)]
              exact ⟨rfl, in_same A.out KK.out⟩
            · go_wp2_with (refine from_law rfl _ _ rfl a n c k rfl .i64 k rfl rfl K ?_)
              intro ao2 n2 c2 hn2 hc2
              have C2 := Lib.hid hc2
              have N2 := Lib.hid hn2
              have P1 := Lib.hid (in_rest H.out hc2 K hn2)
              clear hc2 hn2
              go_wp2_with fail
              refine (iraw_ok P1.out (by rw [List.length_drop, N.out]; omega) x).mono ?_
              intro e w1 hr
              obtain ⟨a1, n1, c1', rfl, T⟩ := text_end P1.out N.out N2.out C2.out (by omega) (by omega) hr
              have T1 := Lib.hid T
              clear T hr
              go_wp2
              go_ret
              refine ⟨x, k, X.out, ?_⟩
              rw [if_neg (by rw [N.out]; rintro (h | h | h | h | h | h); cases h; all_goals omega)]
              exact ⟨a1, n1, c1', rfl, T1.out⟩
          · by_cases m3 : most < (x : Int)
            · go_wp2_with (go_at_call 24; refine (ifail_ok H.out).mono ?_; rintro e w1 ⟨rfl, ha, hk⟩)
              have A := Lib.hid ha
              have KK := Lib.hid hk
              clear ha hk
              go_wp2
              go_ret
              refine ⟨x, k, X.out, ?_⟩
              rw [if_pos (by rw [N.out]; omega)]
              exact ⟨rfl, in_same A.out KK.out⟩
            · go_wp2_with (refine from_law rfl _ _ rfl a n c k rfl .i64 k rfl rfl K ?_)
              intro ao2 n2 c2 hn2 hc2
              have C2 := Lib.hid hc2
              have N2 := Lib.hid hn2
              have P1 := Lib.hid (in_rest H.out hc2 K hn2)
              clear hc2 hn2
              go_wp2_with fail
              refine (iraw_ok P1.out (by rw [List.length_drop, N.out]; omega) x).mono ?_
              intro e w1 hr
              obtain ⟨a1, n1, c1', rfl, T⟩ := text_end P1.out N.out N2.out C2.out (by omega) (by omega) hr
              have T1 := Lib.hid T
              clear T hr
              go_wp2
              go_ret
              refine ⟨x, k, X.out, ?_⟩
              rw [if_neg (by rw [N.out]; rintro (h | h | h | h | h | h); cases h; all_goals omega)]
              exact ⟨a1, n1, c1', rfl, T1.out⟩
  · go_enter Try.func30, Try.ntmps30
    go_wp2_with fail
    refine (inumber_ok H.out B.out G.out).mono ?_
    rintro e w1 ⟨x, k, rfl, hnb, rfl⟩
    have X := Lib.hid hnb
    clear hnb
    go_wp2_with (go_at_call 24; refine (ifail_ok H.out).mono ?_; rintro e w1 ⟨rfl, ha, hk⟩)
    have A := Lib.hid ha
    have KK := Lib.hid hk
    clear ha hk
    go_wp2
    go_ret
    refine ⟨x, k, X.out, ?_⟩
    rw [if_pos (.inl rfl)]
    exact ⟨rfl, in_same A.out KK.out⟩
end Go.Proofs.Ytjpnbgimhmgooaa
