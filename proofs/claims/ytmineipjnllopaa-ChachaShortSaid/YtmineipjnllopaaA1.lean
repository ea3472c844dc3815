/- Words of 32 bits; the two ways of turning a word left. -/
import Derived.Test.YtmineipjnllopaaRows
import Derived.WalkKit
import Derived.WalkSpells
import Derived.WalkLawsBesides
import Derived.Lib.Hide
import Derived.Laws.BitsAll
namespace Go.Proofs.Ytmineipjnllopaa
open Go.RowKit
set_option linter.unusedVariables false

def Word (x : Int) : Prop := 0 ≤ x ∧ x < 4294967296
def xr (x y : Int) : Int := ((x.toNat ^^^ y.toNat : Nat) : Int)
def addw (x y : Int) : Int := (x + y) % 4294967296
def rot (x : Int) (n : Nat) : Int := x * 2 ^ n % 4294967296 + x / 2 ^ (32 - n)

theorem addw_word (x y : Int) : Word (addw x y) := by unfold Word addw; omega
theorem xr_word {x y : Int} (hx : Word x) (hy : Word y) : Word (xr x y) := by
  unfold Word xr at *
  have h : x.toNat ^^^ y.toNat < 2 ^ 32 := Nat.xor_lt_two_pow (by omega) (by omega)
  omega
theorem bits_xr {x y : Int} (hx : Word x) (hy : Word y) : bits .xor .u32 x y = xr x y := u32_xor x y hx.1 hx.2 hy.1 hy.2

theorem rot_aux (x D m p : Int) (hx : Word x) (hD : D = 2 * m) (hm : 0 < m) (hp : 0 < p)
    (h1 : ∀ q r1 r0 : Int, 0 ≤ q → q < p → 0 ≤ r1 → r1 ≤ 1 → 0 ≤ r0 → r0 < m → x = q * D + r1 * m + r0 →
      (x * p % 4294967296 + x / D) * 2 % 4294967296 + (x * p % 4294967296 + x / D) / 2147483648 = x * (p * 2) % 4294967296 + x / m)
    (hb : x < p * D) : (x * p % 4294967296 + x / D) * 2 % 4294967296 + (x * p % 4294967296 + x / D) / 2147483648 = x * (p * 2) % 4294967296 + x / m := by
  have hx0 := hx.1
  have d0 := Int.emod_add_mul_ediv x D
  have d1 := Int.emod_nonneg x (show D ≠ 0 by omega)
  have d2 := Int.emod_lt_of_pos x (show 0 < D by omega)
  have m0 := Int.emod_add_mul_ediv (x % D) m
  have m1 := Int.emod_nonneg (x % D) (show m ≠ 0 by omega)
  have m2 := Int.emod_lt_of_pos (x % D) hm
  have q0 : 0 ≤ x / D := Int.ediv_nonneg hx0 (by omega)
  have q1 : x / D < p := Int.ediv_lt_of_lt_mul (by omega) hb
  have r0 : 0 ≤ x % D / m := Int.ediv_nonneg d1 (by omega)
  have r1 : x % D / m < 2 := Int.ediv_lt_of_lt_mul hm (by omega)
  refine h1 (x / D) (x % D / m) (x % D % m) q0 q1 r0 (by omega) m1 m2 ?_
  rw [Int.mul_comm (x / D), Int.mul_comm (x % D / m)]
  omega
theorem rot_step (x : Int) (k : Nat) (hx : Word x) (hk : k < 16) : rot x k * 2 % 4294967296 + rot x k / 2147483648 = rot x (k + 1) := by
  have hw := hx.2
  have : k = 0 ∨ k = 1 ∨ k = 2 ∨ k = 3 ∨ k = 4 ∨ k = 5 ∨ k = 6 ∨ k = 7 ∨ k = 8 ∨ k = 9 ∨ k = 10 ∨ k = 11 ∨ k = 12 ∨ k = 13 ∨ k = 14 ∨ k = 15 := by omega
  rcases this with rfl | rfl | rfl | rfl | rfl | rfl | rfl | rfl | rfl | rfl | rfl | rfl | rfl | rfl | rfl | rfl
  · refine rot_aux x 4294967296 2147483648 1 hx (by decide) (by decide) (by decide) ?_ (by omega)
    intro q r1 r0 q0 q1 a0 a1 b0 b1 e
    have e1 : x * 1 % 4294967296 = r1 * 2147483648 + r0 * 1 := by omega
    have e2 : x / 4294967296 = q := by omega
    have e3 : x * (1 * 2) % 4294967296 = r0 * 2 := by omega
    have e4 : x / 2147483648 = q * 2 + r1 := by omega
    rw [e1, e2, e3, e4]
    clear e e1 e2 e3 e4
    rcases (show r1 = 0 ∨ r1 = 1 by omega) with rfl | rfl <;> omega
  · refine rot_aux x 2147483648 1073741824 2 hx (by decide) (by decide) (by decide) ?_ (by omega)
    intro q r1 r0 q0 q1 a0 a1 b0 b1 e
    have e1 : x * 2 % 4294967296 = r1 * 2147483648 + r0 * 2 := by omega
    have e2 : x / 2147483648 = q := by omega
    have e3 : x * (2 * 2) % 4294967296 = r0 * 4 := by omega
    have e4 : x / 1073741824 = q * 2 + r1 := by omega
    rw [e1, e2, e3, e4]
    clear e e1 e2 e3 e4
    rcases (show r1 = 0 ∨ r1 = 1 by omega) with rfl | rfl <;> omega
  · refine rot_aux x 1073741824 536870912 4 hx (by decide) (by decide) (by decide) ?_ (by omega)
    intro q r1 r0 q0 q1 a0 a1 b0 b1 e
    have e1 : x * 4 % 4294967296 = r1 * 2147483648 + r0 * 4 := by omega
    have e2 : x / 1073741824 = q := by omega
    have e3 : x * (4 * 2) % 4294967296 = r0 * 8 := by omega
    have e4 : x / 536870912 = q * 2 + r1 := by omega
    rw [e1, e2, e3, e4]
    clear e e1 e2 e3 e4
    rcases (show r1 = 0 ∨ r1 = 1 by omega) with rfl | rfl <;> omega
  · refine rot_aux x 536870912 268435456 8 hx (by decide) (by decide) (by decide) ?_ (by omega)
    intro q r1 r0 q0 q1 a0 a1 b0 b1 e
    have e1 : x * 8 % 4294967296 = r1 * 2147483648 + r0 * 8 := by omega
    have e2 : x / 536870912 = q := by omega
    have e3 : x * (8 * 2) % 4294967296 = r0 * 16 := by omega
    have e4 : x / 268435456 = q * 2 + r1 := by omega
    rw [e1, e2, e3, e4]
    clear e e1 e2 e3 e4
    rcases (show r1 = 0 ∨ r1 = 1 by omega) with rfl | rfl <;> omega
  · refine rot_aux x 268435456 134217728 16 hx (by decide) (by decide) (by decide) ?_ (by omega)
    intro q r1 r0 q0 q1 a0 a1 b0 b1 e
    have e1 : x * 16 % 4294967296 = r1 * 2147483648 + r0 * 16 := by omega
    have e2 : x / 268435456 = q := by omega
    have e3 : x * (16 * 2) % 4294967296 = r0 * 32 := by omega
    have e4 : x / 134217728 = q * 2 + r1 := by omega
    rw [e1, e2, e3, e4]
    clear e e1 e2 e3 e4
    rcases (show r1 = 0 ∨ r1 = 1 by omega) with rfl | rfl <;> omega
  · refine rot_aux x 134217728 67108864 32 hx (by decide) (by decide) (by decide) ?_ (by omega)
    intro q r1 r0 q0 q1 a0 a1 b0 b1 e
    have e1 : x * 32 % 4294967296 = r1 * 2147483648 + r0 * 32 := by omega
    have e2 : x / 134217728 = q := by omega
    have e3 : x * (32 * 2) % 4294967296 = r0 * 64 := by omega
    have e4 : x / 67108864 = q * 2 + r1 := by omega
    rw [e1, e2, e3, e4]
    clear e e1 e2 e3 e4
    rcases (show r1 = 0 ∨ r1 = 1 by omega) with rfl | rfl <;> omega
  · refine rot_aux x 67108864 33554432 64 hx (by decide) (by decide) (by decide) ?_ (by omega)
    intro q r1 r0 q0 q1 a0 a1 b0 b1 e
    have e1 : x * 64 % 4294967296 = r1 * 2147483648 + r0 * 64 := by omega
    have e2 : x / 67108864 = q := by omega
    have e3 : x * (64 * 2) % 4294967296 = r0 * 128 := by omega
    have e4 : x / 33554432 = q * 2 + r1 := by omega
    rw [e1, e2, e3, e4]
    clear e e1 e2 e3 e4
    rcases (show r1 = 0 ∨ r1 = 1 by omega) with rfl | rfl <;> omega
  · refine rot_aux x 33554432 16777216 128 hx (by decide) (by decide) (by decide) ?_ (by omega)
    intro q r1 r0 q0 q1 a0 a1 b0 b1 e
    have e1 : x * 128 % 4294967296 = r1 * 2147483648 + r0 * 128 := by omega
    have e2 : x / 33554432 = q := by omega
    have e3 : x * (128 * 2) % 4294967296 = r0 * 256 := by omega
    have e4 : x / 16777216 = q * 2 + r1 := by omega
    rw [e1, e2, e3, e4]
    clear e e1 e2 e3 e4
    rcases (show r1 = 0 ∨ r1 = 1 by omega) with rfl | rfl <;> omega
  · refine rot_aux x 16777216 8388608 256 hx (by decide) (by decide) (by decide) ?_ (by omega)
    intro q r1 r0 q0 q1 a0 a1 b0 b1 e
    have e1 : x * 256 % 4294967296 = r1 * 2147483648 + r0 * 256 := by omega
    have e2 : x / 16777216 = q := by omega
    have e3 : x * (256 * 2) % 4294967296 = r0 * 512 := by omega
    have e4 : x / 8388608 = q * 2 + r1 := by omega
    rw [e1, e2, e3, e4]
    clear e e1 e2 e3 e4
    rcases (show r1 = 0 ∨ r1 = 1 by omega) with rfl | rfl <;> omega
  · refine rot_aux x 8388608 4194304 512 hx (by decide) (by decide) (by decide) ?_ (by omega)
    intro q r1 r0 q0 q1 a0 a1 b0 b1 e
    have e1 : x * 512 % 4294967296 = r1 * 2147483648 + r0 * 512 := by omega
    have e2 : x / 8388608 = q := by omega
    have e3 : x * (512 * 2) % 4294967296 = r0 * 1024 := by omega
    have e4 : x / 4194304 = q * 2 + r1 := by omega
    rw [e1, e2, e3, e4]
    clear e e1 e2 e3 e4
    rcases (show r1 = 0 ∨ r1 = 1 by omega) with rfl | rfl <;> omega
  · refine rot_aux x 4194304 2097152 1024 hx (by decide) (by decide) (by decide) ?_ (by omega)
    intro q r1 r0 q0 q1 a0 a1 b0 b1 e
    have e1 : x * 1024 % 4294967296 = r1 * 2147483648 + r0 * 1024 := by omega
    have e2 : x / 4194304 = q := by omega
    have e3 : x * (1024 * 2) % 4294967296 = r0 * 2048 := by omega
    have e4 : x / 2097152 = q * 2 + r1 := by omega
    rw [e1, e2, e3, e4]
    clear e e1 e2 e3 e4
    rcases (show r1 = 0 ∨ r1 = 1 by omega) with rfl | rfl <;> omega
  · refine rot_aux x 2097152 1048576 2048 hx (by decide) (by decide) (by decide) ?_ (by omega)
    intro q r1 r0 q0 q1 a0 a1 b0 b1 e
    have e1 : x * 2048 % 4294967296 = r1 * 2147483648 + r0 * 2048 := by omega
    have e2 : x / 2097152 = q := by omega
    have e3 : x * (2048 * 2) % 4294967296 = r0 * 4096 := by omega
    have e4 : x / 1048576 = q * 2 + r1 := by omega
    rw [e1, e2, e3, e4]
    clear e e1 e2 e3 e4
    rcases (show r1 = 0 ∨ r1 = 1 by omega) with rfl | rfl <;> omega
  · refine rot_aux x 1048576 524288 4096 hx (by decide) (by decide) (by decide) ?_ (by omega)
    intro q r1 r0 q0 q1 a0 a1 b0 b1 e
    have e1 : x * 4096 % 4294967296 = r1 * 2147483648 + r0 * 4096 := by omega
    have e2 : x / 1048576 = q := by omega
    have e3 : x * (4096 * 2) % 4294967296 = r0 * 8192 := by omega
    have e4 : x / 524288 = q * 2 + r1 := by omega
    rw [e1, e2, e3, e4]
    clear e e1 e2 e3 e4
    rcases (show r1 = 0 ∨ r1 = 1 by omega) with rfl | rfl <;> omega
  · refine rot_aux x 524288 262144 8192 hx (by decide) (by decide) (by decide) ?_ (by omega)
    intro q r1 r0 q0 q1 a0 a1 b0 b1 e
    have e1 : x * 8192 % 4294967296 = r1 * 2147483648 + r0 * 8192 := by omega
    have e2 : x / 524288 = q := by omega
    have e3 : x * (8192 * 2) % 4294967296 = r0 * 16384 := by omega
    have e4 : x / 262144 = q * 2 + r1 := by omega
    rw [e1, e2, e3, e4]
    clear e e1 e2 e3 e4
    rcases (show r1 = 0 ∨ r1 = 1 by omega) with rfl | rfl <;> omega
  · refine rot_aux x 262144 131072 16384 hx (by decide) (by decide) (by decide) ?_ (by omega)
    intro q r1 r0 q0 q1 a0 a1 b0 b1 e
    have e1 : x * 16384 % 4294967296 = r1 * 2147483648 + r0 * 16384 := by omega
    have e2 : x / 262144 = q := by omega
    have e3 : x * (16384 * 2) % 4294967296 = r0 * 32768 := by omega
    have e4 : x / 131072 = q * 2 + r1 := by omega
    rw [e1, e2, e3, e4]
    clear e e1 e2 e3 e4
    rcases (show r1 = 0 ∨ r1 = 1 by omega) with rfl | rfl <;> omega
  · refine rot_aux x 131072 65536 32768 hx (by decide) (by decide) (by decide) ?_ (by omega)
    intro q r1 r0 q0 q1 a0 a1 b0 b1 e
    have e1 : x * 32768 % 4294967296 = r1 * 2147483648 + r0 * 32768 := by omega
    have e2 : x / 131072 = q := by omega
    have e3 : x * (32768 * 2) % 4294967296 = r0 * 65536 := by omega
    have e4 : x / 65536 = q * 2 + r1 := by omega
    rw [e1, e2, e3, e4]
    clear e e1 e2 e3 e4
    rcases (show r1 = 0 ∨ r1 = 1 by omega) with rfl | rfl <;> omega
theorem rot_zero (x : Int) (hx : Word x) : rot x 0 = x := by
  unfold Word at hx
  simp only [rot, Nat.reduceSub, Int.reducePow]
  omega
theorem rot_word (x : Int) (k : Nat) (hx : Word x) (hk : k ≤ 16) : Word (rot x k) := by
  cases k with
  | zero => rw [rot_zero x hx]; exact hx
  | succ k =>
    induction k with
    | zero =>
      rw [← rot_step x 0 hx (by omega), rot_zero x hx]
      unfold Word at *
      omega
    | succ k ih =>
      have := ih (by omega)
      rw [← rot_step x (k + 1) hx (by omega)]
      unfold Word at *
      omega

theorem left_ok (n : Nat) (x : Int) (w : World) (hx : Word x) (hn : n ≤ 16) :
    Calls Try.prog 23 #[.int .u32 x, .int .i64 n] w fun e w' => e = .returned (.int .u32 (rot x n)) ∧ w = w' := by
  have hx0 := hx.1
  have hx1 := hx.2
  have HX := Lib.hid hx
  clear hx
  go_enter Try.func23, Try.ntmps23
  go_wp2
  go_loop [0, 5] (fun y i => ∃ (k : Nat), k ≤ n ∧ i = .int .i64 k ∧ y = .int .u32 (rot x k)) (fun _ i => n - (intOf i).toNat)
  case atStart => exact ⟨0, Nat.zero_le _, rfl, by rw [rot_zero x HX.out]⟩
  case round =>
    obtain ⟨k, hk, rfl, rfl⟩ := hrel
    obtain ⟨z0, z1⟩ := rot_word x k HX.out (by omega)
    by_cases hlt : k < n
    · have HS := Lib.hid (rot_step x k HX.out (by omega))
      go_wp2
      go_round
      case rel => exact ⟨k + 1, by omega, by go_num, by rw [HS.out]⟩
      case measure => simp [intOf]; omega
    · obtain rfl : k = n := by omega
      go_wp2
      go_ret
      exact ⟨rfl, rfl⟩

theorem rotl16 (x : Int) (w : World) (hx : Word x) :
    Calls Try.prog 25 #[.int .u32 x, .int .i64 16] w fun e w' => e = .returned (.int .u32 (rot x 16)) ∧ w = w' := by
  have hx0 := hx.1
  have hx1 := hx.2
  have ho : bits .or .u32 (x * 65536 % 4294967296) (x / 65536) = rot x 16 :=
    (bits_join .u32 32 (by decide) (fun n h1 h2 => by rw [IntKind.wrap_u32]; omega) 16 _ _ (by omega) (by omega) (by omega) (by omega) (by omega) (by omega)).trans rfl
  have hb : bits .and .u64 16 31 = 16 := by decide
  clear hx
  go_enter Try.func25, Try.ntmps25
  go_wp2
  go_ret
  exact ⟨by rw [← ho]; rfl, rfl⟩
theorem rotl12 (x : Int) (w : World) (hx : Word x) :
    Calls Try.prog 25 #[.int .u32 x, .int .i64 12] w fun e w' => e = .returned (.int .u32 (rot x 12)) ∧ w = w' := by
  have hx0 := hx.1
  have hx1 := hx.2
  have ho : bits .or .u32 (x * 4096 % 4294967296) (x / 1048576) = rot x 12 :=
    (bits_join .u32 32 (by decide) (fun n h1 h2 => by rw [IntKind.wrap_u32]; omega) 12 _ _ (by omega) (by omega) (by omega) (by omega) (by omega) (by omega)).trans rfl
  have hb : bits .and .u64 12 31 = 12 := by decide
  clear hx
  go_enter Try.func25, Try.ntmps25
  go_wp2
  go_ret
  exact ⟨by rw [← ho]; rfl, rfl⟩
theorem rotl8 (x : Int) (w : World) (hx : Word x) :
    Calls Try.prog 25 #[.int .u32 x, .int .i64 8] w fun e w' => e = .returned (.int .u32 (rot x 8)) ∧ w = w' := by
  have hx0 := hx.1
  have hx1 := hx.2
  have ho : bits .or .u32 (x * 256 % 4294967296) (x / 16777216) = rot x 8 :=
    (bits_join .u32 32 (by decide) (fun n h1 h2 => by rw [IntKind.wrap_u32]; omega) 8 _ _ (by omega) (by omega) (by omega) (by omega) (by omega) (by omega)).trans rfl
  have hb : bits .and .u64 8 31 = 8 := by decide
  clear hx
  go_enter Try.func25, Try.ntmps25
  go_wp2
  go_ret
  exact ⟨by rw [← ho]; rfl, rfl⟩
theorem rotl7 (x : Int) (w : World) (hx : Word x) :
    Calls Try.prog 25 #[.int .u32 x, .int .i64 7] w fun e w' => e = .returned (.int .u32 (rot x 7)) ∧ w = w' := by
  have hx0 := hx.1
  have hx1 := hx.2
  have ho : bits .or .u32 (x * 128 % 4294967296) (x / 33554432) = rot x 7 :=
    (bits_join .u32 32 (by decide) (fun n h1 h2 => by rw [IntKind.wrap_u32]; omega) 7 _ _ (by omega) (by omega) (by omega) (by omega) (by omega) (by omega)).trans rfl
  have hb : bits .and .u64 7 31 = 7 := by decide
  clear hx
  go_enter Try.func25, Try.ntmps25
  go_wp2
  go_ret
  exact ⟨by rw [← ho]; rfl, rfl⟩
end Go.Proofs.Ytmineipjnllopaa
