/- The reference's Take. -/
import Derived.Test.YtjpnbgimhmgooaaD4
import Derived.Deep.RegionWith
namespace Go.Proofs.Ytjpnbgimhmgooaa
open Go.RowKit
set_option linter.unusedVariables false
set_option linter.unusedSimpArgs false

theorem wrap_u64 (n : Int) : IntKind.u64.wrap n = n % 18446744073709551616 := by simp [IntKind.wrap, IntKind.bits, IntKind.signed]
theorem acc_wrap (x pw : Nat) {b : Int} (b0 : 0 ≤ b) : IntKind.u64.wrap ((x : Int) + IntKind.u64.wrap (b % 128 * (pw : Int))) = (((x + b.toNat % 128 * pw) % 18446744073709551616 : Nat) : Int) := by
  obtain ⟨n, rfl⟩ : ∃ n : Nat, b = n := ⟨b.toNat, by omega⟩
  rw [wrap_u64, wrap_u64]
  have : ((n : Int) % 128 * (pw : Int)) = ((n % 128 * pw : Nat) : Int) := by norm_cast
  rw [this, Int.toNat_natCast]
  generalize n % 128 * pw = m
  omega
theorem pow_wrap (pw : Nat) : IntKind.u64.wrap ((pw : Int) * 128) = ((pw * 128 % 18446744073709551616 : Nat) : Int) := by
  rw [wrap_u64]; omega

/-- What the bytes are worth, seven bits each. -/
def val : List Int → Nat
  | [] => 0
  | c :: r => c.toNat % 128 + 128 * val r

theorem val_num (y : Nat) : val (num y) = y := by
  induction y using Nat.strongRecOn with
  | _ y ih =>
    by_cases h : y < 128
    · rw [num_lt h]; simp [val]; omega
    · rw [num_ge (by omega), val, ih (y / 128) (by omega), Int.toNat_natCast]; omega

theorem val_snoc (c : Int) : ∀ l : List Int, val (l ++ [c]) = val l + 128 ^ l.length * (c.toNat % 128)
  | [] => by simp [val]
  | d :: l => by
    simp only [List.cons_append, val, val_snoc c l, List.length_cons, Nat.pow_succ, Nat.mul_add]
    have : 128 * (128 ^ l.length * (c.toNat % 128)) = 128 ^ l.length * 128 * (c.toNat % 128) := by rw [← Nat.mul_assoc, Nat.mul_comm 128]
    omega

theorem num_skip2 : ∀ (pre s : List Int) (y : Nat), (∀ b ∈ pre, 128 ≤ b) → num y <+: pre ++ s → num y = pre ++ num (y / 128 ^ pre.length)
  | [], s, y, _, h => by simp
  | p :: pre, s, y, hp, h => by
    have hp0 := hp p (by simp)
    by_cases hy : y < 128
    · rw [num_lt hy] at h
      simp at h
      omega
    · rw [num_ge (by omega)] at h ⊢
      simp only [List.cons_append, List.cons_prefix_cons] at h
      have h1 := num_skip2 pre s (y / 128) (fun b hb => hp b (by simp [hb])) h.2
      have e : 128 ^ (p :: pre).length = 128 * 128 ^ pre.length := by simp [Nat.pow_succ, Nat.mul_comm]
      rw [e, ← Nat.div_div_eq_div_mul, h.1, List.cons_append, ← h1]

/-- The reference's loop behind k bytes, none of them the last one. -/
structure TakeInv (bs : List Int) (k x pw : Nat) : Prop where
  le : k ≤ bs.length
  ten : k ≤ 10
  high : ∀ b ∈ bs.take k, 128 ≤ b
  acc : x = val (bs.take k) % 18446744073709551616
  pow : pw = 128 ^ k % 18446744073709551616

theorem takeInv_zero (bs : List Int) : TakeInv bs 0 0 1 := ⟨Nat.zero_le _, by omega, by simp, by simp [val], by decide⟩

theorem take_acc {bs : List Int} {k x pw X : Nat} {b : Int} (h : TakeInv bs k x pw) (hk : k < bs.length) (hb : bs.getD k 0 = b) (hX : X = (x + b.toNat % 128 * pw) % 18446744073709551616) :
    X = val (bs.take (k + 1)) % 18446744073709551616 := by
  rw [take_snoc' hk, hb, val_snoc, List.length_take_of_le h.le, hX, h.acc, h.pow]
  rw [Nat.mul_comm (b.toNat % 128), Nat.add_mod, Nat.mod_mod, Nat.mod_mul_mod, ← Nat.add_mod]

theorem take_next {bs : List Int} {k x pw X Y : Nat} {b : Int} (h : TakeInv bs k x pw) (hk : k < bs.length) (h10 : k < 10) (hb : bs.getD k 0 = b) (h128 : 128 ≤ b) (hX : X = (x + b.toNat % 128 * pw) % 18446744073709551616) (hY : Y = (pw * 128) % 18446744073709551616) :
    TakeInv bs (k + 1) X Y := by
  refine ⟨hk, by omega, ?_, take_acc h hk hb hX, ?_⟩
  · intro c hc
    rw [take_snoc' hk] at hc
    rcases List.mem_append.1 hc with hc | hc
    · exact h.high c hc
    · simp only [List.mem_singleton] at hc
      rw [hc, hb]; omega
  · rw [hY, h.pow, Nat.pow_succ, Nat.mod_mul_mod]

theorem take_only {bs : List Int} {k x pw X y : Nat} {b : Int} (h : TakeInv bs k x pw) (hk : k < bs.length) (hb : bs.getD k 0 = b) (h128 : b < 128) (hX : X = (x + b.toNat % 128 * pw) % 18446744073709551616)
    (hy : y < 18446744073709551616) (hp : num y <+: bs) : num y = bs.take (k + 1) ∧ y = X := by
  have e : (bs.take k).length = k := List.length_take_of_le h.le
  have hp' : num y <+: bs.take k ++ bs.drop k := by rw [List.take_append_drop]; exact hp
  have h1 := (num_skip (bs.take k) (bs.drop k) y h.high hp').1
  have h2 := num_skip2 (bs.take k) (bs.drop k) y h.high hp'
  rw [e] at h1 h2
  have h3 : num y = bs.take (k + 1) := by
    rw [take_get hk, hb] at h1
    by_cases hs : y / 128 ^ k < 128
    · rw [num_lt hs] at h1 h2
      simp only [List.cons_prefix_cons] at h1
      rw [h2, take_snoc' hk, hb, h1.1]
    · rw [num_ge (by omega)] at h1
      simp only [List.cons_prefix_cons] at h1
      omega
  refine ⟨h3, ?_⟩
  rw [take_acc h hk hb hX, ← h3, val_num, Nat.mod_eq_of_lt hy]

theorem take_yes {bs : List Int} {k x pw X : Nat} (h : TakeInv bs k x pw) (hk : k < bs.length) (hX : X < 18446744073709551616) (he : num X = bs.take (k + 1)) : Numb bs X (k + 1) :=
  .inr ⟨by rw [he, List.length_take_of_le hk], by rw [he]; exact List.take_prefix _ _, hX⟩

theorem take_no {bs : List Int} {k x pw X : Nat} {b : Int} (h : TakeInv bs k x pw) (hk : k < bs.length) (hb : bs.getD k 0 = b) (h128 : b < 128) (hX : X = (x + b.toNat % 128 * pw) % 18446744073709551616) (he : num X ≠ bs.take (k + 1)) : Numb bs 0 0 :=
  .inl ⟨rfl, rfl, fun y hy hp => by
    obtain ⟨e1, e2⟩ := take_only h hk hb h128 hX hy hp
    exact he (e2 ▸ e1)⟩

theorem take_end {bs : List Int} {k x pw : Nat} (h : TakeInv bs k x pw) (hk : k = bs.length ∨ k = 10) : Numb bs 0 0 := by
  refine .inl ⟨rfl, rfl, fun y hy hp => ?_⟩
  have e : (bs.take k).length = k := List.length_take_of_le h.le
  obtain ⟨h1, h2⟩ := num_skip (bs.take k) (bs.drop k) y h.high (by rw [List.take_append_drop]; exact hp)
  rw [e] at h1 h2
  rcases hk with hk | hk
  · rw [hk, List.drop_length] at h1
    simp at h1
    exact num_ne _ h1
  · subst hk
    have := h2 (by omega)
    have e : (128 : Nat) ^ 10 = 1180591620717411303424 := by decide
    omega

theorem ofNums_inj : ∀ {xs ys : List Int}, Bytes xs → Bytes ys → xs.map (fun n => UInt8.ofNat n.toNat) = ys.map (fun n => UInt8.ofNat n.toNat) → xs = ys
  | [], [], _, _, _ => rfl
  | [], y :: ys, _, _, h => by simp at h
  | x :: xs, [], _, _, h => by simp at h
  | x :: xs, y :: ys, hx, hy, h => by
    simp only [List.map_cons, List.cons.injEq] at h
    have h1 := hx x (by simp)
    have h2 := hy y (by simp)
    have e : x.toNat = y.toNat := by
      have := congrArg UInt8.toNat h.1
      rw [UInt8.toNat_ofNat_of_lt' (by have := h1.2; simp; omega), UInt8.toNat_ofNat_of_lt' (by have := h2.2; simp; omega)] at this
      exact this
    rw [ofNums_inj (fun b hb => hx b (by simp [hb])) (fun b hb => hy b (by simp [hb])) h.2]
    have := h1.1
    have := h2.1
    congr 1
    omega

theorem strs_ne {xs ys : List Int} (hx : Bytes xs) (hy : Bytes ys) (h : xs ≠ ys) : ((strOfNums xs).toList == (strOfNums ys).toList) = false := by
  rw [beq_eq_false_iff_ne]
  intro e
  rw [ByteArray.toList_eq, ByteArray.toList_eq, strOfNums_data, strOfNums_data] at e
  exact h (ofNums_inj hx hy e)

theorem bytes_take {bs : List Int} (h : Bytes bs) (k : Nat) : Bytes (bs.take k) := fun b hb => h b (List.mem_of_mem_take hb)
theorem bytes_drop {bs : List Int} (h : Bytes bs) (k : Nat) : Bytes (bs.drop k) := fun b hb => h b (List.mem_of_mem_drop hb)

theorem reads_byte {w : World} {a : Option Addr} {bs : List Int} (h : Reads w a bs) (hb : Bytes bs) {k : Nat} (hk : k < bs.length) :
    ∃ ad b, a = some ad ∧ w.cell? (ad.add k) = some (.int .u8 b) ∧ 0 ≤ b ∧ b ≤ 255 ∧ bs.getD k 0 = b := by
  cases a with
  | none => have := h.1 rfl; subst this; simp at hk
  | some ad => exact ⟨ad, _, rfl, h.2 ad rfl k hk, (byte_at hb hk).1, (byte_at hb hk).2, rfl⟩

def RTakePost (w : World) (bs : List Int) (e : Ending) (w' : World) : Prop := ∃ x k : Nat, e = .returned (.tuple #[.int .u64 x, .int .i64 k]) ∧ Numb bs x k ∧ Below w.heap.size w w'

set_option maxRecDepth 100000 in
set_option maxHeartbeats 4000000 in
theorem rtake_ok {w : World} {a : Option Addr} {n c : Nat} {bs : List Int} (hr : Reads w a bs) (hl : bs.length = n) (hb : Bytes bs) (hc : n ≤ c) (hnone : a = none → c = 0) (hbig : n ≤ 9223372036854775000) :
    Calls Try.prog 32 #[.slice a n c] w (RTakePost w bs) := by
  have R := Lib.hid hr
  have L := Lib.hid hl
  have B := Lib.hid hb
  have NN := Lib.hid hnone
  clear hr hl hb hnone
  go_enter Try.func32, Try.ntmps32
  go_wp2
  go_loop [4, 5, 6] (fun t4 t5 t6 => ∃ k x pw : Nat, t6 = .int .i64 k ∧ t4 = .int .u64 x ∧ t5 = .int .u64 pw ∧ k ≤ n ∧ Hid (TakeInv bs k x pw)) (fun _ _ i => n - (intOf i).toNat)
  case atStart => exact ⟨0, 0, 1, rfl, rfl, rfl, Nat.zero_le _, Lib.hid (takeInv_zero bs)⟩
  case round =>
    obtain ⟨k, x, pw, rfl, rfl, rfl, hk, hI⟩ := hrel
    have hk10 := hI.out.ten
    by_cases h1 : k < n
    · by_cases h2 : k < 10
      · obtain ⟨ad, b, had, hcell, b0, b255, hbe⟩ := reads_byte R.out B.out (k := k) (by rw [L.out]; exact h1)
        have BE := Lib.hid hbe
        have KL : Hid (k < bs.length) := Lib.hid (by rw [L.out]; exact h1)
        clear hbe
        subst had
        obtain ⟨X, hX⟩ : ∃ X : Nat, X = (x + b.toNat % 128 * pw) % 18446744073709551616 := ⟨_, rfl⟩
        have eX : IntKind.u64.wrap ((x : Int) + IntKind.u64.wrap (b % 128 * (pw : Int))) = (X : Int) := by rw [hX]; exact acc_wrap x pw b0
        obtain ⟨Y, hY⟩ : ∃ Y : Nat, Y = (pw * 128) % 18446744073709551616 := ⟨_, rfl⟩
        have eY : IntKind.u64.wrap ((pw : Int) * 128) = (Y : Int) := by rw [hY]; exact pow_wrap pw
        have HX := Lib.hid hX
        have HY := Lib.hid hY
        clear hX hY
        by_cases hb : 128 ≤ b
        · go_wp2
          refine ⟨⟨k + 1, X, Y, rfl, rfl, rfl, by omega, Lib.hid (take_next hI.out KL.out h2 BE.out hb HX.out HY.out)⟩, ?_⟩
          simp [intOf]; omega
        · obtain ⟨ao, co, hcut, hrun⟩ := upto_run (w := w) (some ad) n c (k + 1) (by omega)
          have RR : Hid (Reads w ao (bs.take (k + 1))) := Lib.hid (reads_take (hcut.2.2.1 bs NN.out (by rw [L.out]; exact hc) R.out) (k + 1))
          have LL : Hid ((bs.take (k + 1)).length = k + 1) := Lib.hid (by rw [List.length_take, L.out]; omega)
          clear hcut
          have hS0 : (convert 22 9 (.slice ao (k + 1) co)).run Try.prog w.drew = .ok (.string (strOfNums (bs.take (k + 1)))) w.drew := str_ok (w := w.drew) RR.out LL.out
          have e1 : ((k + 1 : Nat) : Int) = (k : Int) + 1 := rfl
          rw [e1] at hrun
          have hwr : IntKind.i64.wrap ((k : Int) + 1) = (k : Int) + 1 := IntWalk.i64_in _ (by omega)
          have XL : Hid (X < 18446744073709551616) := Lib.hid (by rw [HX.out]; exact Nat.mod_lt _ (by decide))
          clear e1
          go_wp2
          go_region_with ((go_at_call 28; refine (rnum_ok X _ XL.out).mono ?_; rintro e w1 ⟨a1, n1, c1, rfl, hm⟩; have hS1 : (convert 22 9 (.slice ao (k + 1) co)).run Try.prog w1 = .ok (.string (strOfNums (bs.take (k + 1)))) w1 := str_ok (Reads.later (w := w.drew) RR.out hm.below) LL.out; have hS2 : (convert 22 9 (.slice a1 n1 c1)).run Try.prog w1 = .ok (.string (strOfNums _)) w1 := str_ok hm.own.reads.1 hm.own.reads.2))
          all_goals
            try simp only [Act.put, List.setIfInBounds_toArray, List.set_cons_zero, List.set_cons_succ]
            have M := Lib.hid hm
            clear hm hS0 hS1 hS2
            by_cases he : num X = bs.take (k + 1)
            · have hq : ((strOfNums (num X)).toList == (strOfNums (bs.take (k + 1))).toList) = true := by rw [he]; simp
              rw [hq]
              clear hq
              have E := Lib.hid he
              clear he
              go_wp2
              go_ret2
              exact ⟨X, k + 1, rfl, take_yes hI.out KL.out XL.out E.out, (Keeps.drew w (fun _ => False)).below (fun _ _ h => h) |>.trans M.out.below⟩
            · have hq := strs_ne (num_bytes X) (bytes_take B.out (k + 1)) he
              rw [hq]
              clear hq
              have E := Lib.hid he
              clear he
              go_wp2
              go_ret2
              exact ⟨0, 0, rfl, take_no hI.out KL.out BE.out (by omega) HX.out E.out, (Keeps.drew w (fun _ => False)).below (fun _ _ h => h) |>.trans M.out.below⟩
      · have E : Hid (k = bs.length ∨ k = 10) := Lib.hid (.inr (by omega))
        go_wp2
        go_ret2
        exact ⟨0, 0, rfl, take_end hI.out E.out, Below.refl _ _⟩
    · have E : Hid (k = bs.length ∨ k = 10) := Lib.hid (.inl (by rw [L.out]; omega))
      go_wp2
      go_ret2
      exact ⟨0, 0, rfl, take_end hI.out E.out, Below.refl _ _⟩
end Go.Proofs.Ytjpnbgimhmgooaa
