/- PackTakes: the walk. -/
import Derived.Test.YtjpnbgimhmgooaaE1
namespace Go.Proofs.Ytjpnbgimhmgooaa
open Go.RowKit
set_option linter.unusedVariables false

/-- A slice of bytes at hand: what it reads, in memory that was there in w0. -/
structure Text (w0 w : World) (a : Option Addr) (n c : Nat) (bs : List Int) : Prop where
  reads : Reads w a bs
  len : bs.length = n
  cap : n ≤ c
  none : a = none → c = 0
  old : ∀ x, a = some x → 0 < bs.length → x.block < w0.heap.size
  bytes : Bytes bs

theorem Text.cut {w0 w : World} {a a' : Option Addr} {n c n' c' k : Nat} {bs : List Int} (h : Text w0 w a n c bs) (hc : CutOf w a c k a' c') (hk : k ≤ n) (hn : n' = n - k) : Text w0 w a' n' c' (bs.drop k) := by
  refine ⟨hc.2.2.1 bs h.none (by rw [h.len]; exact h.cap) h.reads, by rw [List.length_drop, h.len, hn], by rw [hn, hc.2.2.2]; have := h.cap; omega, ?_, ?_, bytes_drop h.bytes k⟩
  · intro e; have := h.none (hc.1 e); rw [hc.2.2.2]; omega
  · intro x hx hp
    obtain ⟨y, hy, e⟩ := hc.2.1 x hx
    rw [e]
    exact h.old y hy (by rw [List.length_drop] at hp; omega)

theorem Text.keeps {w0 w w' : World} {S : Nat → Prop} {a : Option Addr} {n c : Nat} {bs : List Int} (h : Text w0 w a n c bs) (k : Keeps w w' S) (hn : ∀ i, i < w0.heap.size → ¬ S i) : Text w0 w' a n c bs :=
  ⟨h.reads.keepsPos k fun x hx hp => hn _ (h.old x hx hp), h.len, h.cap, h.none, h.old, h.bytes⟩

/-- The loop of PackTakes. -/
def TakesRel (w : World) (n nl p : Nat) (t6 t7 t8 : Value) (wr : World) : Prop :=
  ∃ (k : Nat) (a : Option Addr) (rn rc : Nat) (rest : List Int) (bad : Bool) (ai : Option Addr) (ni ci : Nat),
    t8 = .int .i64 k ∧ t6 = .slice a rn rc ∧ t7 = .bool bad ∧ k ≤ nl ∧ rest.length ≤ n ∧ Text w wr a rn rc rest ∧ InAt wr p ai ni ci bad rest ∧ Below w.heap.size w wr

theorem in_below {w w1 w2 : World} {p : Nat} (b1 : Below w.heap.size w w1) (k2 : Keeps w1 w2 (Only p)) (hp : w.heap.size ≤ p) : Below w.heap.size w w2 :=
  b1.trans (k2.under b1.size (fun i e => by unfold Only at e; omega))

/-- The element at hand. -/
theorem part_at {w : World} {a : Option Addr} {l : List Pt} {k : Nat} (h : PtsAt w a l) (hk : k < l.length) : ∃ b off q, a = some ⟨b, off, none⟩ ∧ l[k]? = some q ∧ PtAt w b (off + k * 3) q := by
  have hq : l[k]? = some l[k] := List.getElem?_eq_getElem hk
  obtain ⟨b, off, e, hp⟩ := h.2 k _ hq
  exact ⟨b, off, _, e, hq, hp⟩

theorem iover_bad {w : World} {p : Nat} {a : Option Addr} {n c : Nat} {bs : List Int} (h : InAt w p a n c true bs) : Calls Try.prog 13 #[.pointer (some ⟨p, 0, none⟩)] w fun e w' => e = .returned (.bool false) ∧ w = w' := iover_ok h
theorem iover_nil {w : World} {p : Nat} {a : Option Addr} {n c : Nat} {bs : List Int} (h : InAt w p a n c false bs) (hn : n = 0) : Calls Try.prog 13 #[.pointer (some ⟨p, 0, none⟩)] w fun e w' => e = .returned (.bool true) ∧ w = w' := by
  subst hn; exact iover_ok h
theorem iover_more {w : World} {p : Nat} {a : Option Addr} {n c : Nat} {bs : List Int} (h : InAt w p a n c false bs) (hn : n ≠ 0) : Calls Try.prog 13 #[.pointer (some ⟨p, 0, none⟩)] w fun e w' => e = .returned (.bool false) ∧ w = w' := by
  have := iover_ok h
  rwa [show (!false && decide (n = 0)) = false by simp [hn]] at this

theorem takes_step {w w4 : World} {n nl p k rn rc n3 c3 n5 c5 j : Nat} {ra a3 a5 : Option Addr} {rest : List Int} {bad : Bool} (hk : k < nl) (T : Text w w4 ra rn rc rest) (L : rest.length ≤ n) (C : CutOf w4 ra rc j a5 c5) (hj : j ≤ rn) (hn : n5 = rn - j)
    (I : InAt w4 p a3 n3 c3 bad (rest.drop j)) (B : Below w.heap.size w w4) : TakesRel w n nl p (.slice a5 n5 c5) (.bool bad) (.int .i64 ((k : Int) + 1)) w4 :=
  ⟨k + 1, a5, n5, c5, rest.drop j, bad, a3, n3, c3, rfl, rfl, rfl, hk, by rw [List.length_drop]; omega, T.cut C hj hn, I, B⟩

set_option maxRecDepth 100000 in
set_option maxHeartbeats 4000000 in
theorem packTakes_small (a : Option Addr) (n c : Nat) (bs : List Int) (al : Option Addr) (nl cl : Nat) (l : List Pt) (w : World) (hr : Reads w a bs) (hb : Bytes bs) (hl : bs.length = n) (hnc : n ≤ c) (hnone : a = none → c = 0) (hn : n ≤ 2000)
    (hL : PtsAt w al l) (hll : l.length = nl) (hnl : nl ≤ 40) :
    Calls Try.prog 7 #[.slice a n c, .slice al nl cl] w fun e w' => e = .returned (.bool true) ∧ Below w.heap.size w w' := by
  have T0 : Hid (Text w w a n c bs) := Lib.hid ⟨hr, hl, hnc, hnone, fun x hx hp => by have := World.block_lt_of_cell? w _ (hr.2 x hx 0 hp); rwa [add_block] at this, hb⟩
  have PL := Lib.hid hL
  have LL := Lib.hid hll
  clear hr hl hb hnone hL hll
  go_enter Try.func7, Try.ntmps7
  go_wp2_with fail
  refine (awake_ok w).mono ?_
  rintro e w1 ⟨rfl, b1⟩
  have B1 := Lib.hid b1
  have T1 : Hid (Text w w1 a n c bs) := Lib.hid (T0.out.keeps (Keeps.of_below b1 (S := fun _ => False)) (fun _ _ h => h))
  clear b1
  go_wp2_with fail
  refine (read_ok a n c bs w1 T1.out.reads T1.out.len (by omega)).mono ?_
  rintro e w2 ⟨p, ai, ni, ci, rfl, hp, hai, hin, b2⟩
  have B2 : Hid (Below w.heap.size w w2) := Lib.hid (B1.out.trans (b2.mono B1.out.size))
  have I2 := Lib.hid hin
  have P2 : Hid (w.heap.size ≤ p) := Lib.hid (Nat.le_trans B1.out.size hp)
  have T2 : Hid (Text w w2 a n c bs) := Lib.hid (T1.out.keeps (Keeps.of_below b2 (S := fun _ => False)) (fun _ _ h => h))
  clear b2 hin hp hai
  go_wp2
  go_loopw [6, 7, 8] (fun t6 t7 t8 wr => TakesRel w n nl p t6 t7 t8 wr) (fun _ _ i _ => nl - (intOf i).toNat)
  case atStart => exact ⟨0, a, n, c, bs, false, ai, ni, ci, rfl, rfl, rfl, Nat.zero_le _, by rw [T2.out.len]; exact Nat.le_refl _, T2.out, I2.out, B2.out⟩
  case round =>
    obtain ⟨k, ra, rn, rc, rest, bad, ai, ni, ci, rfl, rfl, rfl, hk, hrn, hT, hI, hB⟩ := hrel
    have T := Lib.hid hT
    have I := Lib.hid hI
    have B := Lib.hid hB
    have RN := Lib.hid hrn
    have hrn2 : rn ≤ n := by have := hT.len; omega
    clear hT hI hB hrn
    by_cases hlt : k < nl
    · obtain ⟨bl, off, q, rfl, hq, hpa⟩ := part_at (PL.out.later B.out) (k := k) (by rw [LL.out]; exact hlt)
      have PA := Lib.hid hpa
      have Q := Lib.hid hq
      have d0 := hpa.c0
      have d1 := hpa.c1
      have d2 := hpa.c2
      clear hpa hq
      go_wp2_with fail
      refine (take_part q I.out T.out.bytes (by have := RN.out; omega) PA.out.ok.num PA.out.ok.kind).mono ?_
      rintro e w3 ⟨y, ta, tn, tc, t, bad', rest', rfl, hto, htf, hin3, htk⟩
      obtain ⟨a3, n3, c3, hi3, k3, _⟩ := hin3
      have B3 : Hid (Below w.heap.size w w3) := Lib.hid (in_below B.out k3 P2.out)
      have PA3 := PtsAt.later PL.out B3.out
      have I3 := Lib.hid hi3
      have TO3 := Lib.hid hto
      have TF3 := Lib.hid htf
      have TK := Lib.hid htk
      have T3 : Hid (Text w w3 ra rn rc rest) := Lib.hid (T.out.keeps k3 (fun i hi e => by have := P2.out; unfold Only at e; omega))
      obtain ⟨bl', off', e', hpa3⟩ := PA3.2 k q Q.out
      obtain ⟨rfl, rfl⟩ : bl = bl' ∧ off = off' := by cases e'; exact ⟨rfl, rfl⟩
      have g0 := hpa3.c0
      have g1 := hpa3.c1
      have g2 := hpa3.c2
      clear hi3 hto htf htk k3 PA3 e' hpa3 d0 d1 d2
      go_wp2_with fail
      refine (got_ok q T3.out.reads T3.out.len T3.out.bytes T3.out.cap T3.out.none (by omega) PA.out.ok.num PA.out.ok.kind).mono ?_
      rintro e w4 ⟨y', u, m, ua, un, uc, rfl, hur, hul, hb4, hg⟩
      have AG := took_gotten T.out.bytes PA.out.ok.num TK.out hg
      have B4 : Hid (Below w.heap.size w w4) := Lib.hid (B3.out.trans (hb4.mono B3.out.size))
      have I4 : Hid (InAt w4 p a3 n3 c3 bad' rest') := Lib.hid (I3.out.keeps (Keeps.of_below hb4 (S := fun _ => False)) (fun h => h) (fun _ _ h => h))
      have T4 : Hid (Text w w4 ra rn rc rest) := Lib.hid (T3.out.keeps (Keeps.of_below hb4 (S := fun _ => False)) (fun _ _ h => h))
      have tO4 := TO3.out.keeps (Keeps.of_below hb4 (S := fun _ => False)) (fun _ _ h => h)
      have s1 := str_ok (c := tc) tO4.reads.1 tO4.reads.2
      have s2 := str_ok (c := uc) hur hul
      have UL := Lib.hid hul
      have B4' : Hid (Below w3.heap.size w3 w4) := Lib.hid hb4
      unfold Agree at AG
      clear hb4 tO4 hg hur hul
      by_cases hf : bad = true ∨ m < 0
      · rw [if_pos hf] at AG
        obtain ⟨rfl, rfl, rfl, rfl⟩ := AG
        have hn3 : n3 = rn := by rw [← I4.out.len, T.out.len]
        subst hn3
        have s3 : ∀ cc, (convert 22 9 (.slice none 0 cc)).run Try.prog w4 = .ok (.string (strOfNums [])) w4 := fun cc => str_ok (Reads.nil _ _) rfl
        clear s2
        cases bad
        · have hm : m < 0 := by rcases hf with h | h; cases h; exact h
          clear hf
          go_wp2_with (refine from_law rfl _ _ rfl ra n3 rc 0 rfl .i64 0 rfl rfl (Nat.zero_le _) ?_)
          intro a5 n5 c5 hn5 hc5
          have C5 := Lib.hid hc5
          subst hn5
          clear hc5
          go_wp2_with (first | (go_at_call 18; refine (ibad_ok I4.out).mono ?_; rintro e w8 ⟨rfl, rfl⟩) | (go_at_call 19; refine (ileft_ok I4.out).mono ?_; rintro e w8 ⟨rfl, rfl⟩) | (go_at_call 13; refine (iover_bad I4.out).mono ?_; rintro e w8 ⟨rfl, rfl⟩))
          go_roundw
          case rel => exact takes_step hlt T4.out RN.out C5.out (Nat.zero_le _) rfl I4.out B4.out
          case measure => simp [intOf]; omega
        · clear hf
          go_wp2_with (refine from_law rfl _ _ rfl ra n3 rc 0 rfl .i64 0 rfl rfl (Nat.zero_le _) ?_)
          intro a5 n5 c5 hn5 hc5
          have C5 := Lib.hid hc5
          subst hn5
          clear hc5
          go_wp2_with (first | (go_at_call 18; refine (ibad_ok I4.out).mono ?_; rintro e w8 ⟨rfl, rfl⟩) | (go_at_call 19; refine (ileft_ok I4.out).mono ?_; rintro e w8 ⟨rfl, rfl⟩) | (go_at_call 13; refine (iover_bad I4.out).mono ?_; rintro e w8 ⟨rfl, rfl⟩))
          go_roundw
          case rel => exact takes_step hlt T4.out RN.out C5.out (Nat.zero_le _) rfl I4.out B4.out
          case measure => simp [intOf]; omega
      · rw [if_neg hf] at AG
        clear s1
        have ET := AG.2.1
        obtain ⟨rfl, _, rfl, rfl, hml⟩ := AG
        rw [ET] at TO3 TK
        have s1 := str_ok (c := tc) (TO3.out.keeps (Keeps.of_below B4'.out (S := fun _ => False)) (fun _ _ h => h)).reads.1 (TO3.out.keeps (Keeps.of_below B4'.out (S := fun _ => False)) (fun _ _ h => h)).reads.2
        clear ET
        have hbad : bad = false := by cases bad; rfl; exact absurd (.inl rfl) hf
        subst hbad
        obtain ⟨j, rfl⟩ : ∃ j : Nat, m = j := ⟨m.toNat, by have : ¬ m < 0 := fun h => hf (.inr h); omega⟩
        rw [Int.toNat_natCast] at I4 hml
        have hj : j ≤ rn := by rw [← T.out.len]; exact hml
        have hn3 : n3 = rn - j := by rw [← I4.out.len, List.length_drop, T.out.len]
        subst hn3
        clear hf hml
        by_cases hz : rn - j = 0
        · go_wp2_with (refine from_law rfl _ _ rfl ra rn rc j rfl .i64 j rfl rfl hj ?_)
          intro a5 n5 c5 hn5 hc5
          have C5 := Lib.hid hc5
          subst hn5
          clear hc5
          go_wp2_with (first | (go_at_call 18; refine (ibad_ok I4.out).mono ?_; rintro e w8 ⟨rfl, rfl⟩) | (go_at_call 19; refine (ileft_ok I4.out).mono ?_; rintro e w8 ⟨rfl, rfl⟩) | (go_at_call 13; refine (iover_nil I4.out hz).mono ?_; rintro e w8 ⟨rfl, rfl⟩))
          go_roundw
          case rel => exact takes_step hlt T4.out RN.out C5.out hj hz.symm I4.out B4.out
          case measure => simp [intOf]; omega
        · go_wp2_with (refine from_law rfl _ _ rfl ra rn rc j rfl .i64 j rfl rfl hj ?_)
          intro a5 n5 c5 hn5 hc5
          have C5 := Lib.hid hc5
          subst hn5
          clear hc5
          go_wp2_with (first | (go_at_call 18; refine (ibad_ok I4.out).mono ?_; rintro e w8 ⟨rfl, rfl⟩) | (go_at_call 19; refine (ileft_ok I4.out).mono ?_; rintro e w8 ⟨rfl, rfl⟩) | (go_at_call 13; refine (iover_more I4.out hz).mono ?_; rintro e w8 ⟨rfl, rfl⟩))
          go_roundw
          case rel => exact takes_step hlt T4.out RN.out C5.out hj rfl I4.out B4.out
          case measure => simp [intOf]; omega
    · go_wp2
      go_ret
      exact ⟨rfl, B.out⟩
end Go.Proofs.Ytjpnbgimhmgooaa
