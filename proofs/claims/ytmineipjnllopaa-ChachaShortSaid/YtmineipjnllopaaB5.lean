/- A block of the code. -/
import Derived.Test.YtmineipjnllopaaB4
namespace Go.Proofs.Ytmineipjnllopaa
open Go.RowKit
set_option linter.unusedVariables false

theorem size23 : (Try.prog.info? 23).map (·.size) = some 32 := by kernel_rfl
theorem size22 : (Try.prog.info? 22).map (·.size) = some 32 := by kernel_rfl
theorem size29 : (Try.prog.info? 29).map (·.size) = some 12 := by kernel_rfl
theorem size32 : (Try.prog.info? 32).map (·.size) = some 64 := by kernel_rfl

def iterD : Nat → List Int → List Int
  | 0, s => s
  | k + 1, s => dbl (iterD k s)
theorem Words.iterD {s : List Int} (h : Words s) : ∀ k, Words (iterD k s)
  | 0 => h
  | k + 1 => (Words.iterD h k).dbl
def outK (g was : List Int) : Nat → List Int
  | 0 => List.replicate 64 0
  | k + 1 => put4 (outK g was k) (4 * k) (addw (g.getD k 0) (was.getD k 0))
theorem outK_length (g was : List Int) : ∀ k, (outK g was k).length = 64
  | 0 => rfl
  | k + 1 => by simp [outK, put4, outK_length g was k]
def blk (ks ns : List Int) (c : Int) : List Int := outK (iterD 10 (startG ks ns c)) (startG ks ns c) 16
theorem blk_length (ks ns : List Int) (c : Int) : (blk ks ns c).length = 64 := outK_length _ _ _

theorem startG_words {ks ns : List Int} {c : Int} (hk : ks.length = 32) (hn : ns.length = 12) (bk : Bytes ks) (bn : Bytes ns) (hc : Word c) : Words (startG ks ns c) := by
  unfold startG
  iterate 3 (refine Words.set ?_ _ (wd_word bn (by rw [hn]; decide)))
  iterate 8 (refine Words.set ?_ _ (wd_word bk (by rw [hk]; decide)))
  exact consts_words hc
theorem bytes_set {ys : List Int} (h : Bytes ys) (i : Nat) {x : Int} (hx : Byte x) : Bytes (ys.set i x) := fun y hy => by
  rcases List.mem_or_eq_of_mem_set hy with h' | rfl
  · exact h _ h'
  · exact hx
theorem put4_bytes {ys : List Int} (h : Bytes ys) (o : Nat) {x : Int} (hx : Word x) : Bytes (put4 ys o x) := by
  unfold Word at hx
  unfold put4
  refine bytes_set (bytes_set (bytes_set (bytes_set h _ ?_) _ ?_) _ ?_) _ ?_ <;> (unfold Byte; omega)
theorem outK_bytes (g was : List Int) : ∀ k, Bytes (outK g was k)
  | 0 => fun y hy => by rw [(List.mem_replicate.1 hy).2]; unfold Byte; omega
  | k + 1 => put4_bytes (outK_bytes g was k) _ (addw_word _ _)
theorem blk_bytes (ks ns : List Int) (c : Int) : Bytes (blk ks ns c) := outK_bytes _ _ _

theorem put_any (T g o n cp : Nat) (x : Int) (ys : List Int) (w : World) (hn : n = 4) (hx : Word x) (ho : o + 4 ≤ ys.length) (hy : BytesAt w T g ys) :
    Calls Try.prog 17 #[.slice (some ⟨g, o, none⟩) n cp, .int .u64 x] w fun e w' => (∃ v, e = .returned v) ∧ BytesAt w' T g (put4 ys o x) ∧ Keeps w w' (fun k => k = g) := by
  subst hn
  exact put_ok T g o cp x ys w hx ho hy

set_option maxHeartbeats 4000000 in
set_option maxRecDepth 100000 in
theorem block_ok (ks ns : List Int) (c : Int) (w : World) (hk : ks.length = 32) (hn : ns.length = 12) (bk : Bytes ks) (bn : Bytes ns) (hc : Word c) :
    Calls Try.prog 10 #[.agg (ints ks).toArray, .agg (ints ns).toArray, .int .u32 c] w fun e w' =>
      e = .returned (.agg (ints (blk ks ns c)).toArray) ∧ Below w.heap.size w w' := by
  have SW := Lib.hid (startG_words hk hn bk bn hc)
  have BG := Lib.hid (fun (w : World) => begun_ok ks ns c w hk hn bk bn hc)
  have sk : (Try.prog.info? 23).map (·.size) = some (ints ks).toArray.size := by rw [size23]; simp [ints, hk]
  have sn : (Try.prog.info? 29).map (·.size) = some (ints ns).toArray.size := by rw [size29]; simp [ints, hn]
  have SK := Lib.hid sk
  have SN := Lib.hid sn
  obtain ⟨k0, hk0⟩ : ∃ k0, (ints ks).toArray = k0 := ⟨_, rfl⟩
  obtain ⟨n0, hn0⟩ : ∃ n0, (ints ns).toArray = n0 := ⟨_, rfl⟩
  rw [hk0] at SK BG
  rw [hn0] at SN BG
  rw [hk0, hn0]
  obtain ⟨s, hs⟩ : ∃ s, startG ks ns c = s := ⟨_, rfl⟩
  have hblk : blk ks ns c = outK (iterD 10 s) s 16 := by rw [← hs]; rfl
  rw [hblk]
  rw [hs] at SW BG
  clear hblk hs hk0 hn0 sk sn hk hn bk bn hc
  go_enter Try.func10, Try.ntmps10
  go_wp2_with (first
    | (refine wpList_load_row rfl 23 _ rfl w.heap.size rfl 23 k0 (0, 0) _ ((heap_old_at _ _ _ (by simp <;> omega)).trans ((heap_old_at _ _ _ (by simp <;> omega)).trans (heap_new_at _ _ _ rfl))) Try.underlying23 rfl SK.out ?_)
    | (refine wpList_load_row rfl 29 _ rfl (w.heap.size + 1) rfl 29 n0 (0, 0) _ ((heap_old_at _ _ _ (by simp <;> omega)).trans (heap_new_at _ _ _ (by simp))) Try.underlying29 rfl SN.out ?_)
    | (go_at_call 15; refine (BG.out _).mono ?_; rintro e w1 ⟨rfl, b1⟩; have B1 := Lib.hid b1; clear b1)
    | (refine wpList_store_row rfl 44 _ _ rfl w1.heap.size (s.map (Value.int .u32)) rfl rfl 44 _ (heap_new_at w1 _ _ rfl) (by rw [List.length_map, SW.out.1]; rfl) (by rw [List.length_map, SW.out.1]; exact size44) (words_one s) ?_; intro w2 hg2 k2; have HG2 : Hid (GridAt w2 44 w1.heap.size s) := Lib.hid hg2; have K2 := Lib.hid k2; clear hg2 k2)
    | (refine wpList_load_row rfl 44 _ rfl w1.heap.size rfl 44 (words s) (0, 0) _ HG2.out Try.underlying44 rfl (by rw [size44]; simp [words, SW.out.1]) ?_)
    | (refine wpList_store_row rfl 44 _ _ rfl w2.heap.size (s.map (Value.int .u32)) rfl rfl 44 _ (heap_new_at w2 _ _ rfl) (by rw [List.length_map, SW.out.1]; rfl) (by rw [List.length_map, SW.out.1]; exact size44) (words_one s) ?_; intro w3 hg3 k3; have HG3 : Hid (GridAt w3 44 w2.heap.size s) := Lib.hid hg3; have K3 := Lib.hid k3; clear hg3 k3))
  have z1 : w.heap.size + 1 + 1 + 1 ≤ w1.heap.size := by have := B1.out.size; simp at this; omega
  have z2 : w1.heap.size + 1 ≤ w2.heap.size := by have := K2.out.size; simp at this; omega
  have z3 : w2.heap.size + 1 ≤ w3.heap.size := by have := K3.out.size; simp at this; omega
  have hr1 : w1.heap[w.heap.size + 1 + 1]? = some (.cells #[.int .u8 0, .int .u8 0, .int .u8 0, .int .u8 0, .int .u8 0, .int .u8 0, .int .u8 0, .int .u8 0, .int .u8 0, .int .u8 0, .int .u8 0, .int .u8 0, .int .u8 0, .int .u8 0, .int .u8 0, .int .u8 0, .int .u8 0, .int .u8 0, .int .u8 0, .int .u8 0, .int .u8 0, .int .u8 0, .int .u8 0, .int .u8 0, .int .u8 0, .int .u8 0, .int .u8 0, .int .u8 0, .int .u8 0, .int .u8 0, .int .u8 0, .int .u8 0, .int .u8 0, .int .u8 0, .int .u8 0, .int .u8 0, .int .u8 0, .int .u8 0, .int .u8 0, .int .u8 0, .int .u8 0, .int .u8 0, .int .u8 0, .int .u8 0, .int .u8 0, .int .u8 0, .int .u8 0, .int .u8 0, .int .u8 0, .int .u8 0, .int .u8 0, .int .u8 0, .int .u8 0, .int .u8 0, .int .u8 0, .int .u8 0, .int .u8 0, .int .u8 0, .int .u8 0, .int .u8 0, .int .u8 0, .int .u8 0, .int .u8 0, .int .u8 0] 32 (0, 0)) := (B1.out.block _ (by simp)).trans (heap_new_at _ _ _ (by simp))
  have hr2 : w2.heap[w.heap.size + 1 + 1]? = some (.cells #[.int .u8 0, .int .u8 0, .int .u8 0, .int .u8 0, .int .u8 0, .int .u8 0, .int .u8 0, .int .u8 0, .int .u8 0, .int .u8 0, .int .u8 0, .int .u8 0, .int .u8 0, .int .u8 0, .int .u8 0, .int .u8 0, .int .u8 0, .int .u8 0, .int .u8 0, .int .u8 0, .int .u8 0, .int .u8 0, .int .u8 0, .int .u8 0, .int .u8 0, .int .u8 0, .int .u8 0, .int .u8 0, .int .u8 0, .int .u8 0, .int .u8 0, .int .u8 0, .int .u8 0, .int .u8 0, .int .u8 0, .int .u8 0, .int .u8 0, .int .u8 0, .int .u8 0, .int .u8 0, .int .u8 0, .int .u8 0, .int .u8 0, .int .u8 0, .int .u8 0, .int .u8 0, .int .u8 0, .int .u8 0, .int .u8 0, .int .u8 0, .int .u8 0, .int .u8 0, .int .u8 0, .int .u8 0, .int .u8 0, .int .u8 0, .int .u8 0, .int .u8 0, .int .u8 0, .int .u8 0, .int .u8 0, .int .u8 0, .int .u8 0, .int .u8 0] 32 (0, 0)) := K2.out.heap ((heap_old_at _ _ _ (by omega)).trans hr1) (by omega)
  have HR : Hid (w3.heap[w.heap.size + 1 + 1]? = some (.cells #[.int .u8 0, .int .u8 0, .int .u8 0, .int .u8 0, .int .u8 0, .int .u8 0, .int .u8 0, .int .u8 0, .int .u8 0, .int .u8 0, .int .u8 0, .int .u8 0, .int .u8 0, .int .u8 0, .int .u8 0, .int .u8 0, .int .u8 0, .int .u8 0, .int .u8 0, .int .u8 0, .int .u8 0, .int .u8 0, .int .u8 0, .int .u8 0, .int .u8 0, .int .u8 0, .int .u8 0, .int .u8 0, .int .u8 0, .int .u8 0, .int .u8 0, .int .u8 0, .int .u8 0, .int .u8 0, .int .u8 0, .int .u8 0, .int .u8 0, .int .u8 0, .int .u8 0, .int .u8 0, .int .u8 0, .int .u8 0, .int .u8 0, .int .u8 0, .int .u8 0, .int .u8 0, .int .u8 0, .int .u8 0, .int .u8 0, .int .u8 0, .int .u8 0, .int .u8 0, .int .u8 0, .int .u8 0, .int .u8 0, .int .u8 0, .int .u8 0, .int .u8 0, .int .u8 0, .int .u8 0, .int .u8 0, .int .u8 0, .int .u8 0, .int .u8 0] 32 (0, 0))) := Lib.hid (K3.out.heap ((heap_old_at _ _ _ (by omega)).trans hr2) (by omega))
  have HG2 : Hid (GridAt w3 44 w1.heap.size s) := Lib.hid (K3.out.heap ((heap_old_at _ _ _ (by omega)).trans HG2.out) (by omega))
  have kw : Keeps w w1 (fun k => w.heap.size ≤ k) := Keeps.of_below (((((Below.refl w.heap.size w).alloc (Nat.le_refl _) _).alloc (by simp) _).alloc (by simp <;> omega) _).trans (B1.out.mono (by simp <;> omega)))
  have kw := (kw.trans (Keeps.alloc w1 _ (fun k => w.heap.size ≤ k)) (fun i hi h => h)).trans K2.out (fun i hi h => by omega)
  have KK := Lib.hid ((kw.trans (Keeps.alloc w2 _ (fun k => w.heap.size ≤ k)) (fun i hi h => h)).trans K3.out (fun i hi h => by omega))
  clear hr1 hr2 kw B1 K2 K3
  obtain ⟨A, hA⟩ : ∃ A, A = w1.heap.size := ⟨_, rfl⟩
  obtain ⟨G, hG⟩ : ∃ G, G = w2.heap.size := ⟨_, rfl⟩
  rw [← hA] at HG2 z1 z2
  rw [← hG] at HG3 z2 z3
  rw [← hA, ← hG]
  clear hA hG
  go_loopw [16] (fun i wr => ∃ k : Nat, k ≤ 10 ∧ i = .int .i64 k ∧ GridAt wr 44 G (iterD k s) ∧ Keeps w3 wr (fun j => j = G)) (fun i _ => 10 - (intOf i).toNat)
  case atStart => exact ⟨0, Nat.zero_le _, rfl, HG3.out, Keeps.refl _ _⟩
  case round =>
    obtain ⟨k, hk, rfl, hg, hkp⟩ := hrel
    have HG := Lib.hid hg
    have HP := Lib.hid hkp
    clear hg hkp
    by_cases hlt : k < 10
    · go_wp2_with (go_at_call 16; refine (double_ok G (iterD k s) _ (SW.out.iterD k) HG.out).mono ?_; rintro e w4 ⟨⟨v, rfl⟩, hg4, k4⟩; have HG4 := Lib.hid hg4; have HP4 := Lib.hid (HP.out.trans k4 (fun _ _ h => h)); clear hg4 k4)
      go_roundw
      case rel => exact ⟨k + 1, by omega, by go_num, HG4.out, HP4.out⟩
      case measure => simp [intOf]; omega
    · obtain rfl : k = 10 := by omega
      have HR := Lib.hid (HP.out.heap HR.out (by omega))
      have HA := Lib.hid (HP.out.heap HG2.out (by omega))
      have KK := Lib.hid (KK.out.trans HP.out (fun i hi h => by omega))
      have zr : G + 1 ≤ wr.heap.size := by have := heap_lt HG.out; omega
      have WG := Lib.hid (SW.out.iterD 10)
      obtain ⟨g, hg⟩ : ∃ g, iterD 10 s = g := ⟨_, rfl⟩
      rw [hg] at HG WG
      have EG := Lib.hid hg
      clear HP hg HG2 HG3
      go_wp2
      obtain ⟨w5, e1⟩ : ∃ w5, wr.alloc (.cells #[.int .u8 0, .int .u8 0, .int .u8 0, .int .u8 0, .int .u8 0, .int .u8 0, .int .u8 0, .int .u8 0, .int .u8 0, .int .u8 0, .int .u8 0, .int .u8 0, .int .u8 0, .int .u8 0, .int .u8 0, .int .u8 0, .int .u8 0, .int .u8 0, .int .u8 0, .int .u8 0, .int .u8 0, .int .u8 0, .int .u8 0, .int .u8 0, .int .u8 0, .int .u8 0, .int .u8 0, .int .u8 0, .int .u8 0, .int .u8 0, .int .u8 0, .int .u8 0, .int .u8 0, .int .u8 0, .int .u8 0, .int .u8 0, .int .u8 0, .int .u8 0, .int .u8 0, .int .u8 0, .int .u8 0, .int .u8 0, .int .u8 0, .int .u8 0, .int .u8 0, .int .u8 0, .int .u8 0, .int .u8 0, .int .u8 0, .int .u8 0, .int .u8 0, .int .u8 0, .int .u8 0, .int .u8 0, .int .u8 0, .int .u8 0, .int .u8 0, .int .u8 0, .int .u8 0, .int .u8 0, .int .u8 0, .int .u8 0, .int .u8 0, .int .u8 0] 32) = w5 := ⟨_, rfl⟩
      rw [e1]
      have HO : Hid (BytesAt w5 32 wr.heap.size (outK g s 0)) := Lib.hid (by rw [← e1]; exact heap_new_at _ _ _ rfl)
      have HR := Lib.hid ((show w5.heap[w.heap.size + 1 + 1]? = _ from e1 ▸ (heap_old_at wr _ _ (by omega))).trans HR.out)
      have HA : Hid (GridAt w5 44 A s) := Lib.hid ((show w5.heap[A]? = _ from e1 ▸ (heap_old_at wr _ _ (by omega))).trans HA.out)
      have HG : Hid (GridAt w5 44 G g) := Lib.hid ((show w5.heap[G]? = _ from e1 ▸ (heap_old_at wr _ _ (by omega))).trans HG.out)
      have KK : Hid (Keeps w w5 (fun k => w.heap.size ≤ k)) := Lib.hid (by rw [← e1]; exact KK.out.trans (Keeps.alloc wr _ (fun k => w.heap.size ≤ k)) (fun i hi h => h))
      obtain ⟨O, hO⟩ : ∃ O, O = wr.heap.size := ⟨_, rfl⟩
      rw [← hO] at HO zr
      rw [← hO]
      clear e1 hO
      go_loopw [20] (fun i wz => ∃ k : Nat, k ≤ 16 ∧ i = .int .i64 k ∧ BytesAt wz 32 O (outK g s k) ∧ Keeps w5 wz (fun j => j = O)) (fun i _ => 16 - (intOf i).toNat)
      case atStart => exact ⟨0, Nat.zero_le _, rfl, HO.out, Keeps.refl _ _⟩
      case round =>
        obtain ⟨k, hk, rfl, hb, hkp⟩ := hrel
        have HB := Lib.hid hb
        have HP := Lib.hid hkp
        clear hb hkp
        have HG' : Hid (GridAt wr 44 G g) := Lib.hid (HP.out.heap HG.out (by omega))
        have HA' : Hid (GridAt wr 44 A s) := Lib.hid (HP.out.heap HA.out (by omega))
        by_cases hlt : k < 16
        · obtain ⟨xa, XA, ⟨xa0, xa1⟩, ca, _⟩ := HG'.out.at_ WG.out hlt
          obtain ⟨xb, XB, ⟨xb0, xb1⟩, cb, _⟩ := HA'.out.at_ SW.out hlt
          have ik0 : (0 : Int) ≤ (k : Int) := by omega
          have ik1 : (k : Int) < 16 := by omega
          go_wp2
          have m1 : IntKind.i64.wrap (4 * (k : Int)) = 4 * (k : Int) := IntWalk.i64_in _ (by omega)
          have m2 : IntKind.i64.wrap (4 * (k : Int) + 4) = 4 * (k : Int) + 4 := IntWalk.i64_in _ (by omega)
          have m3 : (0 : Int) ≤ 4 * (k : Int) := by omega
          have m4 : (4 * (k : Int)).toNat = 4 * k := by omega
          have m5 : (4 * (k : Int) + 4).toNat = 4 * k + 4 := by omega
          have m6 : 4 * (k : Int) + 4 ≤ 64 := by omega
          have m8 : ¬ (64 = 4 * k) := by omega
          obtain ⟨z, hz⟩ : ∃ z, z = addw xa xb := ⟨_, rfl⟩
          have m9 : IntKind.u32.wrap (xa + xb) = z := by rw [hz, IntKind.wrap_u32]; rfl
          obtain ⟨z0, z1⟩ : Word z := by rw [hz]; exact addw_word _ _
          have m10 : IntKind.u64.wrap z = z := IntWalk.u64_in _ (by omega)
          have EZ := Lib.hid hz
          clear hz
          have m7 : 4 * (k : Int) ≤ 4 * (k : Int) + 4 := by omega
          go_still_tail 14, (by kernel_rfl)
          change wpList _ _ _ _ _ (World.drew _)
          go_wp2_with fail
          refine (put_any 32 O (4 * k) _ _ z (outK g s k) wr.drew rfl ⟨z0, z1⟩ (by rw [outK_length]; omega) (show BytesAt wr.drew 32 O (outK g s k) from HB.out)).mono ?_
          rintro e w6 ⟨⟨v, rfl⟩, hb6, k6⟩
          have HB6 : Hid (BytesAt w6 32 O (outK g s (k + 1))) := Lib.hid (by show BytesAt w6 32 O (put4 _ _ (addw (g.getD k 0) (s.getD k 0))); rw [← XA.out, ← XB.out, ← EZ.out]; exact hb6)
          have HP6 := Lib.hid ((HP.out.trans (Keeps.drew wr (fun j => j = O)) (fun i hi h => h)).trans k6 (fun i hi h => h))
          clear hb6 k6 m1 m2 m3 m4 m5 m6 m7 m8 m9 m10
          go_wp2
          go_roundw
          case rel => exact ⟨k + 1, by omega, by go_num, HB6.out, HP6.out⟩
          case measure => simp [intOf]; omega
        · obtain rfl : k = 16 := by omega
          have HR := Lib.hid (HP.out.heap HR.out (by omega))
          have KK := Lib.hid (KK.out.trans HP.out (fun i hi h => by omega))
          have HL : Hid ((ints (outK g s 16)).length = 64) := Lib.hid (by rw [List.length_map, outK_length])
          have HS : Hid ((Try.prog.info? 32).map (·.size) = some (ints (outK g s 16)).length) := Lib.hid (by rw [HL.out]; exact size32)
          go_wp2_with (first
            | (refine wpList_load_row rfl 32 _ rfl O rfl 32 (ints (outK g s 16)).toArray (0, 0) _ HB.out Try.underlying32 rfl (by rw [List.size_toArray]; exact HS.out) ?_)
            | (refine wpList_store_row rfl 32 _ _ rfl (w.heap.size + 1 + 1) (ints (outK g s 16)) rfl rfl 32 _ HR.out HL.out HS.out (ints_one _) ?_; intro w7 hg7 k7))
          exact bodyPost_ret (results_cell_row rfl _ _ (w.heap.size + 1 + 1) 32 (ints (outK g s 16)).toArray (0, 0) _ rfl hg7 Try.underlying32 rfl (by rw [List.size_toArray]; exact HS.out)) rfl ⟨by rw [EG.out], (KK.out.trans k7 (fun i hi h => by omega)).below (fun i hi h => by omega)⟩
end Go.Proofs.Ytmineipjnllopaa
