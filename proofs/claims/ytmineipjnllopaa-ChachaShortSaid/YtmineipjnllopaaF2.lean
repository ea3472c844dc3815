/- The reference's Xor. -/
import Derived.Test.YtmineipjnllopaaF1
namespace Go.Proofs.Ytmineipjnllopaa
open Go.RowKit Go.Shelf
set_option linter.unusedVariables false
set_option linter.unusedSimpArgs false

theorem xr_comm (x y : Int) : xr x y = xr y x := by unfold xr; rw [Nat.xor_comm]
/-- The text turned up to i, the stream from there on. -/
def mixL (ks ns : List Int) (c : Int) (bs : List Int) (n i : Nat) : List Int := xorL ks ns c bs i ++ (strL ks ns c n).drop i
theorem mixL_length (ks ns : List Int) (c : Int) (bs : List Int) (n i : Nat) (h : i ≤ n) : (mixL ks ns c bs n i).length = n := by
  unfold mixL
  rw [List.length_append, xorL_length, List.length_drop, strL_length]
  omega
theorem mixL_at (ks ns : List Int) (c : Int) (bs : List Int) (n i : Nat) (h : i < n) : (mixL ks ns c bs n i).getD i 0 = sb ks ns c i := by
  unfold mixL
  rw [List.getD, List.getElem?_append_right (by rw [xorL_length]; exact Nat.le_refl _), xorL_length, Nat.sub_self, List.getElem?_drop, Nat.add_zero, strL_getD _ _ _ _ _ h, Option.getD_some]
theorem set_mid (p q : List Int) (v s : Int) : (p ++ s :: q).set p.length v = (p ++ [v]) ++ q := by
  rw [List.set_append_right _ _ (Nat.le_refl _), Nat.sub_self, List.set_cons_zero, List.append_assoc]
  rfl
theorem drop_str (l : List Int) (i : Nat) (v : Int) (h : i < l.length) (hv : l[i]? = some v) : l.drop i = v :: l.drop (i + 1) := by
  rw [List.drop_eq_getElem_cons h]
  rw [List.getElem?_eq_getElem h] at hv
  rw [Option.some.inj hv]
theorem xorL_succ (ks ns : List Int) (c : Int) (bs : List Int) (i : Nat) : xorL ks ns c bs (i + 1) = xorL ks ns c bs i ++ [xr (bs.getD i 0) (sb ks ns c i)] := rfl
theorem mixL_set (ks ns : List Int) (c : Int) (bs : List Int) (n i : Nat) (h : i < n) : (mixL ks ns c bs n i).set i (xr (bs.getD i 0) (sb ks ns c i)) = mixL ks ns c bs n (i + 1) := by
  have e := drop_str (strL ks ns c n) i _ (by rw [strL_length]; exact h) (strL_getD ks ns c n i h)
  have m := set_mid (xorL ks ns c bs i) ((strL ks ns c n).drop (i + 1)) (xr (bs.getD i 0) (sb ks ns c i)) (sb ks ns c i)
  rw [xorL_length] at m
  unfold mixL
  rw [e, m, xorL_succ]
theorem mixL_end (ks ns : List Int) (c : Int) (bs : List Int) (n : Nat) : mixL ks ns c bs n n = xorL ks ns c bs n := by
  unfold mixL
  rw [List.drop_eq_nil_of_le (by rw [strL_length]; exact Nat.le_refl _), List.append_nil]

set_option maxHeartbeats 1000000 in
set_option maxRecDepth 100000 in
theorem rxor_ok (ks ns bs : List Int) (c : Int) (b0 : Option Addr) (n cp : Nat) (w : World) (hk : ks.length = 32) (hn : ns.length = 12) (bk : Bytes ks) (bn : Bytes ns) (hc : Word c)
    (hr : Reads w b0 bs) (hl : bs.length = n) (hb : Bytes bs) (hn2 : n ≤ 65536) :
    Calls Try.prog 13 #[.agg (ints ks).toArray, .agg (ints ns).toArray, .int .u32 c, .slice b0 n cp] w (RStreamAt w n (xorL ks ns c bs n)) := by
  have hn0 : (0 : Int) ≤ (n : Int) := by omega
  have hn3 : (n : Int) ≤ 65536 := by omega
  have sk := Lib.hid (show (Try.prog.info? 22).map (·.size) = some (ints ks).toArray.size by rw [size22]; simp [ints, hk])
  have sn := Lib.hid (show (Try.prog.info? 29).map (·.size) = some (ints ns).toArray.size by rw [size29]; simp [ints, hn])
  have RS := Lib.hid (fun (w : World) => rstream_ok ks ns c n w hk hn bk bn hc hn2)
  have HR := Lib.hid hr
  have HL := Lib.hid hl
  have HB := Lib.hid hb
  clear hk hn bk bn hc hr hl hb
  have e0 : ∃ w0, (w.alloc (.cells (ints ks).toArray 22)).alloc (.cells (ints ns).toArray 29) = w0 := ⟨_, rfl⟩
  go_enter Try.func13, Try.ntmps13
  go_wp2_with (first
    | (refine wpList_load_row rfl 22 _ rfl w.heap.size rfl 22 (ints ks).toArray (0, 0) _ ((heap_old_at _ _ _ (by simp)).trans (heap_new_at _ _ _ rfl)) Try.underlying22 rfl sk.out ?_)
    | (refine wpList_load_row rfl 29 _ rfl (w.heap.size + 1) rfl 29 (ints ns).toArray (0, 0) _ (heap_new_at _ _ _ (by simp)) Try.underlying29 rfl sn.out ?_))
  obtain ⟨w0, e0⟩ := e0
  rw [e0]
  have KB := Lib.hid (show Below w.heap.size w w0 by rw [← e0]; exact ((Below.refl _ _).alloc (Nat.le_refl _) _).alloc (by simp) _)
  clear e0
  refine (RS.out w0).mono ?_
  rintro e w1 ⟨a, cc, rfl, own1, b1, f1⟩
  have M0 : Hid (Own w1 (.slice a n cc) (mixL ks ns c bs n 0)) := Lib.hid own1
  have B1 := Lib.hid (KB.out.trans (b1.mono KB.out.size))
  have F1 : Hid (∀ k, (Value.slice a n cc).ownBlock = some k → w.heap.size ≤ k) := Lib.hid (fun k hk => Nat.le_trans KB.out.size (f1 k hk))
  clear own1 b1 f1
  go_wp2
  go_loopw [10] (fun u wr => ∃ i : Nat, i ≤ n ∧ u = .int .i64 i ∧ Own wr (.slice a n cc) (mixL ks ns c bs n i) ∧ Below w.heap.size w wr) (fun u _ => n - (intOf u).toNat)
  case atStart => exact ⟨0, Nat.zero_le _, rfl, M0.out, B1.out⟩
  case round =>
    obtain ⟨i, hi, rfl, own, hbl⟩ := hrel
    have OW := Lib.hid own
    have BL := Lib.hid hbl
    clear own hbl
    have i0 : (0 : Int) ≤ (i : Int) := by omega
    by_cases hlt : i < n
    · have hlt' : (i : Int) < (n : Int) := by omega
      obtain ⟨g, rfl, hg⟩ := OW.out.head (by omega)
      have hgw : w.heap.size ≤ g := F1.out g rfl
      obtain ⟨x, hx⟩ : ∃ x, sb ks ns c i = x := ⟨_, rfl⟩
      obtain ⟨y, hy⟩ : ∃ y, bs.getD i 0 = y := ⟨_, rfl⟩
      have cx : wr.cell? ⟨g, i, none⟩ = some (.int .u8 x) := by rw [OW.out.cell hlt, mixL_at _ _ _ _ _ _ hlt, hx]
      have fx := OW.out.free i
      cases b0 with
      | none =>
        have := HR.out.1 rfl
        have h2 := HL.out
        rw [this] at h2
        simp at h2
        omega
      | some ad =>
        have hrd : Reads wr (some ad) bs := HR.out.keeps (Keeps.of_below BL.out (S := fun _ => False)) (fun _ _ h => h)
        have cy : wr.cell? (ad.add i) = some (.int .u8 y) := by rw [hrd.2 ad rfl i (by rw [HL.out]; exact hlt), hy]
        obtain ⟨z, hz⟩ : ∃ z, bits .xor .u8 x y = z := ⟨_, rfl⟩
        have EZ : Hid (z = xr (bs.getD i 0) (sb ks ns c i)) := Lib.hid (by
          rw [← hz, bits_xr8 (by rw [← hx]; exact sb_byte _ _ _ _) (by rw [← hy]; exact HB.out.at_ (by rw [HL.out]; exact hlt)), xr_comm, hx, hy])
        clear hrd hx hy
        go_wp2
        go_still_tail 12, (by kernel_rfl)
        change wpList _ _ _ _ _ (World.drew _)
        go_wp2
        have O2 : Own ((wr.setCell ⟨g, i, none⟩ (.int .u8 z)).drew) (.slice (some ⟨g, 0, none⟩) n cc) (mixL ks ns c bs n (i + 1)) := by
          have := OW.out.store hlt z
          rw [EZ.out, mixL_set _ _ _ _ _ _ hlt] at this
          rw [EZ.out]
          exact this.keeps (Keeps.drew _ (S := fun _ => False)) (fun _ _ h => h)
        have L2 : Below w.heap.size w ((wr.setCell ⟨g, i, none⟩ (.int .u8 z)).drew) := by
          exact Below.drew (Below.setCell BL.out (p := ⟨g, i, none⟩) hgw _)
        go_roundw
        case rel => exact ⟨i + 1, by omega, by go_num, O2, L2⟩
        case measure => simp [intOf]; omega
    · obtain rfl : i = n := by omega
      go_wp2
      go_ret
      have O9 := OW.out
      rw [mixL_end] at O9
      exact ⟨a, cc, rfl, O9, BL.out, F1.out⟩
end Go.Proofs.Ytmineipjnllopaa
