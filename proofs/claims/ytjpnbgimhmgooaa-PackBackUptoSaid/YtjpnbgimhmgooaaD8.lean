/- The reference's Bytes. -/
import Derived.Test.YtjpnbgimhmgooaaD7
import Derived.Deep.RegionLaw
namespace Go.Proofs.Ytjpnbgimhmgooaa
open Go.RowKit
set_option linter.unusedVariables false
set_option linter.unusedSimpArgs false

/-- What Bytes answers: a slice that reads the part's bytes (none of a part that is too long), and whether it is not too long. -/
def BytesPost (w : World) (q : Pt) (e : Ending) (w' : World) : Prop :=
  ∃ (a : Option Addr) (n c : Nat) (ys : List Int) (ok : Bool), e = .returned (.tuple #[.slice a n c, .bool ok]) ∧ (ok = true ↔ ¬ pbad q) ∧ ys = (if pbad q then [] else pbytes q) ∧ Reads w' a ys ∧ ys.length = n ∧ (a = none → c = 0) ∧ Below w.heap.size w w'

theorem reads_at1 (w : World) (z : Int) (g : Nat) (hg : g = w.heap.size) : Reads (w.alloc (.cells #[.int .u8 z] 5)) (some ⟨g, 0, none⟩) [z] := by
  subst hg; exact reads_new1 w z

set_option maxRecDepth 100000 in
set_option maxHeartbeats 1000000 in
theorem rbytes_ok {w : World} (q : Pt) (hq : PtOk w q) (hb : q.n ≤ 140737488350000) : Calls Try.prog 16 #[q.agg] w (BytesPost w q) := by
  have KA := Keeps.alloc w (.cells #[.int .u8 q.kind, .int .u64 q.x, .slice q.a q.n q.c] 42) (fun _ => False)
  have BA : Hid (Below w.heap.size w (w.alloc (.cells #[.int .u8 q.kind, .int .u64 q.x, .slice q.a q.n q.c] 42))) := Lib.hid (KA.below (fun _ _ h => h))
  have Q1 : Hid (PtOk (w.alloc (.cells #[.int .u8 q.kind, .int .u64 q.x, .slice q.a q.n q.c] 42)) q) := Lib.hid (hq.keeps KA (fun _ _ _ h => h))
  have hkb := hq.kind
  have hnum := Lib.hid hq.num
  have hlen := Lib.hid hq.len
  clear hq KA
  obtain ⟨k, x, a, n, c, bs⟩ := q
  simp only [Pt.agg] at *
  obtain ⟨k0, k1⟩ := hkb
  rcases kind_cases k with hk | hk | hk | hk
  · go_enter Try.func16, Try.ntmps16
    go_wp2_with fail
    refine (rnum_ok x _ hnum.out).mono ?_
    rintro e w1 ⟨a1, n1, c1, rfl, hm⟩
    have M := Lib.hid hm
    clear hm
    have nb : ¬ pbad ⟨k, x, a, n, c, bs⟩ := by unfold pbad; simp only; omega
    have NB := Lib.hid nb
    clear nb
    go_wp2
    go_ret2
    refine ⟨a1, n1, c1, num x, true, rfl, ⟨fun _ => NB.out, fun _ => rfl⟩, ?_, M.out.own.reads.1, M.out.own.reads.2, ?_, BA.out.trans (M.out.below.mono BA.out.size)⟩
    · rw [if_neg NB.out]; unfold pbytes; rw [if_pos hk]
    · obtain ⟨_, _, e, _, _, h, _⟩ := M.out.own.form; cases e; exact h
  · by_cases hl : 4096 < n
    · have pb : Hid (pbad ⟨k, x, a, n, c, bs⟩) := Lib.hid ⟨hk, by show 4096 < bs.length; rw [hlen.out]; exact hl⟩
      go_enter Try.func16, Try.ntmps16
      go_wp2
      go_ret2
      exact ⟨none, 0, 0, [], false, rfl, ⟨fun h => (by cases h), fun h => absurd pb.out h⟩, by rw [if_pos pb.out], Reads.nil _ _, rfl, fun _ => rfl, BA.out⟩
    · have NB : Hid (¬ pbad ⟨k, x, a, n, c, bs⟩) := Lib.hid (fun h => by have : 4096 < bs.length := h.2; rw [hlen.out] at this; omega)
      go_enter Try.func16, Try.ntmps16
      have c2 : (w.alloc (.cells #[.int .u8 k, .int .u64 x, .slice a n c] 42)).cell? ⟨w.heap.size, 2, none⟩ = some (.slice a n c) := by rw [World.cell?_alloc_new]; rfl
      have hwn : IntKind.u64.wrap (n : Int) = (n : Int) := IntWalk.u64_in _ (by omega)
      go_wp2
      go_region_law (first | (go_simp; go_at_call 28; refine (rnum_ok n _ (by omega)).mono ?_; rintro e w1 ⟨a1, n1, c1, rfl, hm⟩; have c3 : w1.cell? ⟨w.heap.size, 2, none⟩ = some (.slice a n c) := (hm.below.cell (p := ⟨w.heap.size, 2, none⟩) (by simp)).trans c2; have R1 : Reads w1 a bs := Reads.later (w := (w.alloc (.cells #[.int .u8 k, .int .u64 x, .slice a n c] 42)).drew) Q1.out.reads hm.below) | (refine step_app rfl _ _ rfl _ (num n) rfl hm.own a n c bs rfl Q1.out.none R1 hlen.out (by have := num_length_u64 (x := n) (by omega); omega) ?_; intro a2 n2 c4 w2 ho hkp hf))
      all_goals
        simp [Act.put, Act.eval]
        have M := Lib.hid hm
        have O := Lib.hid ho
        have KP := Lib.hid hkp
        clear hm ho hkp hf R1 c3
        go_wp2
        go_ret2
        refine ⟨a2, n2, c4, num n ++ bs, true, rfl, ⟨fun _ => NB.out, fun _ => rfl⟩, ?_, O.out.reads.1, O.out.reads.2, ?_, ?_⟩
        · rw [if_neg NB.out]; unfold pbytes; rw [if_neg (by simp only; omega), if_pos hk]; simp only; rw [hlen.out]
        · obtain ⟨_, _, e, _, _, h, _⟩ := O.out.form; cases e; exact h
        · exact BA.out.trans (((Keeps.drew _ (fun _ => False)).below (fun _ _ h => h) |>.trans M.out.below).mono BA.out.size |>.trans (KP.out.under (Nat.le_trans BA.out.size M.out.below.size) (fun i e => Nat.le_trans BA.out.size (M.out.fresh i e))))
  · have NB : Hid (¬ pbad ⟨k, x, a, n, c, bs⟩) := Lib.hid (by unfold pbad; simp only; omega)
    go_enter Try.func16, Try.ntmps16
    go_wp2
    go_ret2
    refine ⟨a, n, c, bs, true, rfl, ⟨fun _ => NB.out, fun _ => rfl⟩, ?_, Q1.out.reads, hlen.out, Q1.out.none, BA.out⟩
    rw [if_neg NB.out]; unfold pbytes; rw [if_neg (by simp only; omega), if_neg (by simp only; omega), if_pos hk]
  · have NB : Hid (¬ pbad ⟨k, x, a, n, c, bs⟩) := Lib.hid (by unfold pbad; simp only; omega)
    go_enter Try.func16, Try.ntmps16
    go_wp2
    go_ret2
    refine ⟨_, 1, 1, [(x : Int) % 2], true, rfl, ⟨fun _ => NB.out, fun _ => rfl⟩, ?_, reads_at1 _ _ _ (by simp), rfl, (fun h => by cases h), BA.out.alloc BA.out.size _⟩
    rw [if_neg NB.out]; unfold pbytes; rw [if_neg (by simp only; omega), if_neg (by simp only; omega), if_neg (by simp only; omega)]; rfl
end Go.Proofs.Ytjpnbgimhmgooaa
