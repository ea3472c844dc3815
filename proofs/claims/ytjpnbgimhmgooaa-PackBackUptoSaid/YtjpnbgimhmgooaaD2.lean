/- The contracts of put and take of the law's text. -/
import Derived.Test.YtjpnbgimhmgooaaD1
namespace Go.Proofs.Ytjpnbgimhmgooaa
open Go.RowKit
set_option linter.unusedVariables false

def Pt.agg (q : Pt) : Value := .agg #[.int .u8 q.kind, .int .u64 q.x, .slice q.a q.n q.c]
def pbad (q : Pt) : Prop := q.kind % 4 = 1 ∧ 4096 < q.bs.length
instance (q : Pt) : Decidable (pbad q) := by unfold pbad; infer_instance
def pbytes (q : Pt) : List Int :=
  if q.kind % 4 = 0 then num q.x else if q.kind % 4 = 1 then num q.bs.length ++ q.bs else if q.kind % 4 = 2 then q.bs else [((q.x % 2 : Nat) : Int)]

def PartPost (w : World) (o : Nat) (v : Value) (long : Bool) (xs : List Int) (q : Pt) (w' : World) : Prop :=
  if pbad q then PutPost w o v true xs w' else PutPost w o v long (xs ++ pbytes q) w'

theorem kind_cases (k : Int) : k % 4 = 0 ∨ k % 4 = 1 ∨ k % 4 = 2 ∨ k % 4 = 3 := by omega

theorem put_since {w w1 : World} {o : Nat} {v : Value} {long : Bool} {b : Obj} {ys : List Int} (ho : o < w.heap.size) (p1 : PutPost (w.alloc b) o v long ys w1) : PutPost w o v long ys w1 :=
  PutPost.trans (Keeps.alloc w b (Foot o v)) (fun k hk => .inl hk) p1 ho

theorem flag_byte (x : Nat) : (if ((x : Int) % 2 == 1) = true then (1 : Int) else 0) = ((x % 2 : Nat) : Int) := by
  by_cases h : x % 2 = 1
  · rw [if_pos (by simp; omega), h]; rfl
  · rw [if_neg (by simp; omega)]; omega

set_option maxRecDepth 100000 in
set_option maxHeartbeats 4000000 in
theorem put_part (o : Nat) (v : Value) (long : Bool) (xs : List Int) (q : Pt) (w : World) (h : OutAt w o v long xs) (hq : PtOk w q) (hd : ∀ x, q.a = some x → 0 < q.n → ¬ Foot o v x.block)
    (hb : xs.length + q.n + 5000 ≤ 140737488355328) :
    Calls Try.prog 15 #[.pointer (some ⟨o, 0, none⟩), q.agg] w fun e w' => e = .returned (.tuple #[]) ∧ PartPost w o v long xs q w' := by
  have KA := Keeps.alloc w (.cells #[.int .u8 q.kind, .int .u64 q.x, .slice q.a q.n q.c] 42) (fun _ => False)
  have H := Lib.hid h
  have H1 : Hid (OutAt (w.alloc (.cells #[.int .u8 q.kind, .int .u64 q.x, .slice q.a q.n q.c] 42)) o v long xs) := Lib.hid (h.keeps KA (fun _ _ h => h))
  have Q1 : Hid (PtOk (w.alloc (.cells #[.int .u8 q.kind, .int .u64 q.x, .slice q.a q.n q.c] 42)) q) := Lib.hid (hq.keeps KA (fun _ _ _ h => h))
  have hkb := hq.kind
  have hnum := Lib.hid hq.num
  have hlen := Lib.hid hq.len
  have hmx : Hid (q.n ≤ 9223372036854775807) := Lib.hid (by have := hq.max; have := hq.cap; unfold maxLen at *; omega)
  have D1 := Lib.hid hd
  clear h hq hd KA
  obtain ⟨k, x, a, n, c, bs⟩ := q
  simp only [Pt.agg] at *
  obtain ⟨k0, k1⟩ := hkb
  rcases kind_cases k with hk | hk | hk | hk
  · go_enter Try.func15, Try.ntmps15
    go_wp2_with fail
    refine (onum_ok o v long xs x _ H1.out hnum.out (by omega)).mono ?_
    rintro e w1 ⟨rfl, hp⟩
    have P := Lib.hid hp
    clear hp
    go_wp2
    go_end0
    refine ⟨rfl, ?_⟩
    unfold PartPost
    rw [if_neg (by unfold pbad; simp only; omega)]
    unfold pbytes
    rw [if_pos hk]
    exact put_since (heap_lt H.out.cells) P.out
  · go_enter Try.func15, Try.ntmps15
    go_wp2_with fail
    refine (otext_ok o v long xs a n c bs _ H1.out hlen.out Q1.out.none Q1.out.reads D1.out hmx.out (by omega)).mono ?_
    rintro e w1 ⟨rfl, hp⟩
    have P := Lib.hid hp
    clear hp
    go_wp2
    go_end0
    refine ⟨rfl, ?_⟩
    unfold PartPost
    have p1 := P.out
    unfold TextPost at p1
    by_cases hl : 4096 < bs.length
    · rw [if_pos hl] at p1
      rw [if_pos (show pbad _ from ⟨hk, hl⟩)]
      exact put_since (heap_lt H.out.cells) p1
    · rw [if_neg hl] at p1
      rw [if_neg (fun hb => hl hb.2)]
      unfold pbytes
      rw [if_neg (by simp only; omega), if_pos hk]
      exact put_since (heap_lt H.out.cells) p1
  · go_enter Try.func15, Try.ntmps15
    go_wp2_with fail
    refine (oraw_ok o v long xs a n c bs _ H1.out hlen.out Q1.out.none Q1.out.reads (by omega)).mono ?_
    rintro e w1 ⟨rfl, hp⟩
    have P := Lib.hid hp
    clear hp
    go_wp2
    go_end0
    refine ⟨rfl, ?_⟩
    unfold PartPost
    rw [if_neg (by unfold pbad; simp only; omega)]
    unfold pbytes
    rw [if_neg (by simp only; omega), if_neg (by simp only; omega), if_pos hk]
    exact put_since (heap_lt H.out.cells) P.out
  · go_enter Try.func15, Try.ntmps15
    go_wp2_with fail
    refine (oflag_ok o v long xs _ _ H1.out (by omega)).mono ?_
    rintro e w1 ⟨rfl, hp⟩
    have P := Lib.hid hp
    clear hp
    go_wp2
    go_end0
    refine ⟨rfl, ?_⟩
    unfold PartPost
    rw [if_neg (by unfold pbad; simp only; omega)]
    unfold pbytes
    rw [if_neg (by simp only; omega), if_neg (by simp only; omega), if_neg (by simp only; omega), ← flag_byte x]
    exact put_since (heap_lt H.out.cells) P.out
end Go.Proofs.Ytjpnbgimhmgooaa
