/- The contracts of bytes.Clone and of the writing half (Out) of the package pack. -/
import Derived.Test.YtjpnbgimhmgooaaA2
namespace Go.Proofs.Ytjpnbgimhmgooaa
open Go.RowKit
set_option linter.unusedVariables false

def CloneAt (w : World) (xs : List Int) (e : Ending) (w' : World) : Prop :=
  ∃ a' n' c', e = .returned (.slice a' n' c') ∧ Own w' (.slice a' n' c') xs ∧ Below w.heap.size w w' ∧ ∀ k, (Value.slice a' n' c').ownBlock = some k → w.heap.size ≤ k

theorem clone_ok (ao : Option Addr) (n c : Nat) (xs : List Int) (w : World) (hr : Reads w ao xs) (hx : xs.length = n) (hbig : n ≤ 140737488355328) :
    Calls Try.prog 23 #[.slice ao n c] w (CloneAt w xs) := by
  cases ao with
  | none =>
    have := hr.1 rfl
    subst this
    refine (clone_nil n c w).mono ?_
    rintro e w' ⟨rfl, rfl⟩
    exact ⟨none, 0, 0, rfl, Own.nil w, Below.refl _ _, fun k hk => by cases hk⟩
  | some a =>
    refine (clone_at a n c xs w hx hbig (fun i hi => hr.2 a rfl i (by omega))).mono ?_
    rintro e w' ⟨v', rfl, hown, hne, hb⟩
    have ho : Own w' v' xs := by
      obtain ⟨h1, h2⟩ := hown
      refine ⟨by simp, ?_⟩
      rcases h2 with h2 | ⟨g, cap, cur, hv, hb, r⟩
      · exact absurd h2.1 hne
      · exact .inr ⟨g, cap, cur, by rw [hx]; exact hv, Nat.zero_le _, by rw [hx]; exact r⟩
    obtain ⟨a', c', hv, _⟩ := ho.form
    subst hv
    refine ⟨a', xs.length, c', rfl, ho, hb, ?_⟩
    intro k hk
    exact (World.ownsRow.lt hown k hk).1

/-- An Out at block o: its slice value v owns a row that holds xs. -/
structure OutAt (w : World) (o : Nat) (v : Value) (long : Bool) (xs : List Int) : Prop where
  cells : w.heap[o]? = some (.cells #[v, .bool long] 30 (0, 0))
  own : Own w v xs
  apart : v.ownBlock ≠ some o

def Foot (o : Nat) (v : Value) : Nat → Prop := fun k => k = o ∨ v.ownBlock = some k

def PutPost (w : World) (o : Nat) (v : Value) (long : Bool) (ys : List Int) (w' : World) : Prop :=
  ∃ v', OutAt w' o v' long ys ∧ Keeps w w' (Foot o v) ∧ Fresh w v v'

theorem OutAt.keeps {w w' : World} {S : Nat → Prop} {o : Nat} {v : Value} {long : Bool} {xs : List Int} (h : OutAt w o v long xs) (k : Keeps w w' S) (hn : ∀ i, Foot o v i → ¬ S i) : OutAt w' o v long xs :=
  ⟨k.heap h.cells (hn o (.inl rfl)), h.own.keeps k fun i hi => hn i (.inr hi), h.apart⟩

theorem PutPost.refl {w : World} {o : Nat} {v : Value} {long : Bool} {xs : List Int} (h : OutAt w o v long xs) : PutPost w o v long xs w := ⟨v, h, Keeps.refl _ _, fun k hk => .inl hk⟩

/-- The slice of an Out is set. -/
theorem put_end {w w1 : World} {o : Nat} {v v' : Value} {long : Bool} {xs ys : List Int} (h : OutAt w o v long xs) (hown : Own w1 v' ys) (hk : Keeps w w1 (Row v)) (hf : Fresh w v v') : PutPost w o v long ys (w1.setCell ⟨o, 0, none⟩ v') := by
  have hc : w1.heap[o]? = some (.cells #[v, .bool long] 30 (0, 0)) := hk.heap h.cells (fun e => h.apart e)
  have hap : v'.ownBlock ≠ some o := fun e => by
    rcases hf o e with e1 | e1
    · exact h.apart e1
    · have := heap_lt h.cells; omega
  refine ⟨v', ⟨?_, ?_, hap⟩, ?_, hf⟩
  · rw [heap_setCell_at hc]; rfl
  · exact hown.keeps (Keeps.setCell _ _ _ (S := fun k => k = o) rfl) (fun k hk e => hap (e ▸ hk))
  · exact (hk.mono fun i _ hi => .inr hi).trans (Keeps.setCell _ _ _ (S := Foot o v) (.inl rfl)) (fun i _ hi => hi)

set_option maxHeartbeats 1000000 in
theorem put_ok (o : Nat) (v : Value) (long : Bool) (xs : List Int) (ao : Option Addr) (m c : Nat) (ys : List Int) (w : World) (h : OutAt w o v long xs)
    (hm : ys.length = m) (hnone : ao = none → c = 0) (hr : Reads w ao ys) (hb : xs.length + m ≤ 140737488355328) :
    Calls Try.prog 25 #[.pointer (some ⟨o, 0, none⟩), .slice ao m c] w fun e w' => e = .returned (.tuple #[]) ∧ PutPost w o v long (xs ++ ys) w' := by
  have H := Lib.hid h
  have hm' := Lib.hid hm
  have hr' := Lib.hid hr
  have hno := Lib.hid hnone
  have c0 : w.cell? ⟨o, 0, none⟩ = some v := by rw [cell_of h.cells]; rfl
  have f0 : w.frozen? ⟨o, 0, none⟩ = false := frozen_of h.cells 0
  clear h hm hr hnone
  go_enter Try.func25, Try.ntmps25
  go_wp2_with (at_builtin; refine app_law rfl _ _ rfl v xs rfl H.out.own ao m c ys rfl hno.out hr'.out hm'.out hb ?_)
  intro a' n' c' w1 hown hn hk hf _
  have K := Lib.hid hown
  have G := Lib.hid hk
  have F := Lib.hid hf
  have c1 : w1.cell? ⟨o, 0, none⟩ = some v := hk.cell_some c0 (fun e => H.out.apart e)
  have f1 : w1.frozen? ⟨o, 0, none⟩ = false := by rw [hk.frozen (World.block_lt_of_cell? w _ c0) (fun e => H.out.apart e)]; exact f0
  clear hown hn hk hf
  go_wp2
  go_end0
  exact ⟨rfl, put_end H.out K.out G.out F.out⟩

/-- A number's bytes. -/
def num (x : Nat) : List Int := if x < 128 then [(x : Int)] else ((x % 128 + 128 : Nat) : Int) :: num (x / 128)
termination_by x

theorem num_lt {x : Nat} (h : x < 128) : num x = [(x : Int)] := by rw [num]; simp [h]
theorem num_ge {x : Nat} (h : 128 ≤ x) : num x = ((x % 128 + 128 : Nat) : Int) :: num (x / 128) := by rw [num]; simp [show ¬ x < 128 by omega]

theorem num_length (n : Nat) : ∀ (x : Nat), x < 128 ^ (n + 1) → (num x).length ≤ n + 1 := by
  induction n with
  | zero => intro x hx; rw [num_lt (by simpa using hx)]; simp
  | succ n ih =>
    intro x hx
    by_cases h : x < 128
    · rw [num_lt h]; simp
    · rw [num_ge (by omega)]
      have := ih (x / 128) (by rw [Nat.div_lt_iff_lt_mul (by omega)]; rw [← Nat.pow_succ]; exact hx)
      simp; omega
theorem num_length_u64 {x : Nat} (h : x < 18446744073709551616) : (num x).length ≤ 10 := num_length 9 x (Nat.lt_of_lt_of_le h (by decide))

/-- The loop of Num: what was packed, and what is still to be packed. -/
def NumRel (w : World) (o : Nat) (v : Value) (long : Bool) (xs : List Int) (x : Nat) (t : Value) (wr : World) : Prop :=
  ∃ y : Nat, t = .int .u64 y ∧ y ≤ x ∧ ∃ done, done ++ num y = num x ∧ PutPost w o v long (xs ++ done) wr

theorem PutPost.trans {w w1 w2 : World} {o : Nat} {v v1 : Value} {l2 : Bool} {xs : List Int} (h1 : Keeps w w1 (Foot o v)) (hf : Fresh w v v1) (h2 : PutPost w1 o v1 l2 xs w2) (ho : o < w.heap.size) : PutPost w o v l2 xs w2 := by
  obtain ⟨v2, a, b, c⟩ := h2
  refine ⟨v2, a, h1.trans b ?_, ?_⟩
  · rintro i hi (rfl | e)
    · exact .inl rfl
    · rcases hf i e with e | e
      · exact .inr e
      · omega
  · intro k hk
    rcases c k hk with e | e
    · exact hf k e
    · have := h1.size; exact .inr (by omega)

theorem reads_new1 (w : World) (z : Int) : Reads (w.alloc (.cells #[.int .u8 z] 5)) (some ⟨w.heap.size, 0, none⟩) [z] := by
  refine ⟨fun e => (by cases e), fun x hx i hi => ?_⟩
  cases hx
  have h0 : i = 0 := by simpa using hi
  subst h0
  rw [show (⟨w.heap.size, 0, none⟩ : Addr).add 0 = ⟨w.heap.size, 0, none⟩ from rfl, World.cell?_alloc_new]
  rfl

theorem done_length {done : List Int} {x y : Nat} (h : done ++ num y = num x) (hl : (num x).length ≤ 10) (hy : 128 ≤ y) : done.length ≤ 8 := by
  have := congrArg List.length h
  rw [num_ge hy] at this
  have h1 : 1 ≤ (num (y / 128)).length := by rw [num]; split <;> simp
  simp at this
  omega

theorem done_length0 {done : List Int} {x y : Nat} (h : done ++ num y = num x) (hl : (num x).length ≤ 10) : done.length ≤ 9 := by
  have := congrArg List.length h
  have h1 : 1 ≤ (num y).length := by rw [num]; split <;> simp
  simp at this
  omega

theorem or128 (y : Nat) : bits BinOp.or .u8 ((y : Int) % 256) 128 = ((y % 128 + 128 : Nat) : Int) := by
  have h : ∀ z : Fin 256, bits BinOp.or .u8 (z.val : Int) 128 = ((z.val % 128 + 128 : Nat) : Int) := by decide +kernel
  have h' := h ⟨y % 256, Nat.mod_lt _ (by omega)⟩
  simp only at h'
  rw [show ((y : Int) % 256) = ((y % 256 : Nat) : Int) by omega, h']
  congr 1
  omega

theorem put_after {w wr w1 : World} {o : Nat} {v v1 : Value} {long : Bool} {xs : List Int} {b : Obj} (H : OutAt w o v long xs) (k1 : Keeps w wr (Foot o v)) (f1 : Fresh w v v1) {ys : List Int}
    (p1 : PutPost (wr.alloc b) o v1 long ys w1) : PutPost w o v long ys w1 :=
  PutPost.trans (k1.trans (Keeps.alloc wr b (fun _ => False)) (fun _ _ h => h.elim)) f1 p1 (heap_lt H.cells)

theorem num_step {w wr w1 : World} {o : Nat} {v v1 : Value} {long : Bool} {xs done : List Int} {b : Obj} {x y : Nat} (H : OutAt w o v long xs) (D : done ++ num y = num x) (Y : y ≤ x) (hlt : 128 ≤ y)
    (k1 : Keeps w wr (Foot o v)) (f1 : Fresh w v v1) (p1 : PutPost (wr.alloc b) o v1 long ((xs ++ done) ++ [bits BinOp.or .u8 ((y : Int) % 256) 128]) w1) : NumRel w o v long xs x (.int .u64 ((y : Int) / 128)) w1 := by
  refine ⟨y / 128, by congr 1, by omega, done ++ [((y % 128 + 128 : Nat) : Int)], ?_, ?_⟩
  · rw [← D, num_ge hlt]; simp
  · rw [← List.append_assoc, ← or128]
    exact put_after H k1 f1 p1

theorem num_last {w wr w1 : World} {o : Nat} {v v1 : Value} {long : Bool} {xs done : List Int} {b : Obj} {x y : Nat} (H : OutAt w o v long xs) (D : done ++ num y = num x) (hlt : ¬ 128 ≤ y)
    (k1 : Keeps w wr (Foot o v)) (f1 : Fresh w v v1) (p1 : PutPost (wr.alloc b) o v1 long ((xs ++ done) ++ [(y : Int)]) w1) : PutPost w o v long (xs ++ num x) w1 := by
  rw [← D, num_lt (by omega), ← List.append_assoc]
  exact put_after H k1 f1 p1

set_option maxRecDepth 100000 in
set_option maxHeartbeats 1000000 in
theorem onum_ok (o : Nat) (v : Value) (long : Bool) (xs : List Int) (x : Nat) (w : World) (h : OutAt w o v long xs) (hx : x < 18446744073709551616) (hb : xs.length + 10 ≤ 140737488355328) :
    Calls Try.prog 20 #[.pointer (some ⟨o, 0, none⟩), .int .u64 x] w fun e w' => e = .returned (.tuple #[]) ∧ PutPost w o v long (xs ++ num x) w' := by
  have H := Lib.hid h
  have hlen := Lib.hid (num_length_u64 hx)
  have HX := Lib.hid hx
  clear h hx
  go_enter Try.func20, Try.ntmps20
  go_wp2
  go_loopw [1] (fun t wr => NumRel w o v long xs x t wr) (fun t _ => (intOf t).toNat)
  case atStart => exact ⟨x, rfl, Nat.le_refl _, [], rfl, by rw [List.append_nil]; exact PutPost.refl H.out⟩
  case round =>
    obtain ⟨y, rfl, hyx, done, hd, hp⟩ := hrel
    have D := Lib.hid hd
    have P := Lib.hid hp
    have Y := Lib.hid hyx
    clear hd hp hyx
    by_cases hlt : 128 ≤ y
    · have hl := done_length D.out hlen.out hlt
      obtain ⟨v1, o1, k1, f1⟩ := P.out
      have O1 := Lib.hid (o1.keeps (Keeps.alloc wr (.cells #[.int .u8 (bits BinOp.or .u8 (y % 256) 128)] 5) (fun _ => False)) (fun _ _ h => h))
      have K1 := Lib.hid k1
      have F1 := Lib.hid f1
      clear o1 k1 f1
      go_wp2_with (go_at_call 25; refine (put_ok o v1 long (xs ++ done) _ 1 1 [bits BinOp.or .u8 (y % 256) 128] _ O1.out rfl (fun e => by cases e) (reads_new1 _ _) (by simp; omega)).mono ?_; rintro e w1 ⟨rfl, hp1⟩)
      have P1 := Lib.hid hp1
      clear hp1
      go_wp2
      go_roundw
      case rel => exact num_step H.out D.out Y.out hlt K1.out F1.out P1.out
      case measure => simp [intOf]; omega
    · have hl := done_length0 D.out hlen.out
      obtain ⟨v1, o1, k1, f1⟩ := P.out
      have O1 := Lib.hid (o1.keeps (Keeps.alloc wr (.cells #[.int .u8 y] 5) (fun _ => False)) (fun _ _ h => h))
      have K1 := Lib.hid k1
      have F1 := Lib.hid f1
      clear o1 k1 f1
      go_wp2_with (go_at_call 25; refine (put_ok o v1 long (xs ++ done) _ 1 1 [(y : Int)] _ O1.out rfl (fun e => by cases e) (reads_new1 _ _) (by simp; omega)).mono ?_; rintro e w1 ⟨rfl, hp1⟩)
      have P1 := Lib.hid hp1
      clear hp1
      go_wp2
      go_end0
      exact ⟨rfl, num_last H.out D.out hlt K1.out F1.out P1.out⟩
end Go.Proofs.Ytjpnbgimhmgooaa
