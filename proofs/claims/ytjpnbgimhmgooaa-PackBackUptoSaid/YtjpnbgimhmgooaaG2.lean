/- PackBack: the walk. -/
import Derived.Test.YtjpnbgimhmgooaaG1
import Derived.Test.YtjpnbgimhmgooaaE2
import Derived.Test.YtjpnbgimhmgooaaF2
namespace Go.Proofs.Ytjpnbgimhmgooaa
open Go.RowKit
set_option linter.unusedVariables false

/-- An Out of the call's own: while it is not too long it holds the parts' bytes. -/
structure Back (w wr : World) (o : Nat) (v : Value) (long : Bool) (xs : List Int) (l : List Pt) (k : Nat) : Prop where
  out : OutAt wr o v long xs
  below : Below w.heap.size w wr
  foot : ∀ j, Foot o v j → w.heap.size ≤ j
  len : xs.length ≤ ptSum (l.take k) + 10 * k
  good : long = false → xs = cat (l.take k) ∧ ∀ i q, i < k → l[i]? = some q → ¬ pbad q

def BackRel (w : World) (o nl : Nat) (l : List Pt) (t : Value) (wr : World) : Prop :=
  ∃ (k : Nat) (v : Value) (long : Bool) (xs : List Int), t = .int .i64 k ∧ k ≤ nl ∧ Back w wr o v long xs l k

theorem back_step {w wr w1 wq : World} {o nl k : Nat} {v : Value} {long : Bool} {xs : List Int} {l : List Pt} {q : Pt} (h : Back w wr o v long xs l k) (hk : k < nl) (hq : l[k]? = some q) (ok : PtOk wq q) (p : PartPost wr o v long xs q w1) :
    BackRel w o nl l (.int .i64 ((k : Int) + 1)) w1 := by
  have hpl := padd_length ok
  have fin : ∀ (l1 : Bool) (x1 : List Int), PutPost wr o v l1 x1 w1 → x1.length ≤ ptSum (l.take (k + 1)) + 10 * (k + 1) → (l1 = false → x1 = cat (l.take (k + 1)) ∧ ∀ i q, i < k + 1 → l[i]? = some q → ¬ pbad q) → BackRel w o nl l (.int .i64 ((k : Int) + 1)) w1 := by
    rintro l1 x1 ⟨v1, o1, k1, f1⟩ hlen hgood
    refine ⟨k + 1, v1, l1, x1, rfl, hk, o1, h.below.trans (k1.under h.below.size h.foot), ?_, hlen, hgood⟩
    rintro j (e | e)
    · exact h.foot j (.inl e)
    · rcases f1 j e with e1 | e1
      · exact h.foot j (.inr e1)
      · have := h.below.size; omega
  have hl := h.len
  unfold PartPost at p
  unfold padd at hpl
  by_cases hb : pbad q
  · rw [if_pos hb] at p
    exact fin true xs p (by rw [ptSum_take hq]; omega) (fun e => by cases e)
  · rw [if_neg hb] at p hpl
    refine fin long (xs ++ pbytes q) p (by rw [ptSum_take hq, List.length_append]; omega) (fun e => ?_)
    obtain ⟨e1, e2⟩ := h.good e
    refine ⟨by rw [cat_snoc hq, e1], fun i q' hi hq' => ?_⟩
    by_cases hik : i = k
    · subst hik; rw [hq] at hq'; cases hq'; exact hb
    · exact e2 i q' (by omega) hq'

/-- The second loop: what is left in the In. -/
def BackRel2 (w : World) (p nl : Nat) (l : List Pt) (t : Value) (wr : World) : Prop :=
  ∃ (k : Nat) (a : Option Addr) (n c : Nat), t = .int .i64 k ∧ k ≤ nl ∧ InAt wr p a n c false (cat (l.drop k)) ∧ Below w.heap.size w wr

set_option maxRecDepth 100000 in
set_option maxHeartbeats 4000000 in
theorem packBack_few (al : Option Addr) (nl cl : Nat) (l : List Pt) (w : World) (hL : PtsAt w al l) (hll : l.length = nl) (hbulk : ptSum l ≤ 1048576) (hbig : nl ≤ 9223372036854775807) :
    Calls Try.prog 6 #[.slice al nl cl] w fun e w' => e = .returned (.bool true) ∧ Below w.heap.size w w' := by
  have PL := Lib.hid hL
  have LL := Lib.hid hll
  have BU := Lib.hid hbulk
  clear hL hll hbulk
  go_enter Try.func6, Try.ntmps6
  go_wp2_with fail
  refine (awake_ok w).mono ?_
  rintro e w1 ⟨rfl, b1⟩
  have B1 := Lib.hid b1
  have PL1 := Lib.hid (PL.out.later b1)
  clear b1
  go_wp2_with fail
  refine (few_ok al nl cl l PL1.out LL.out hbig).mono ?_
  rintro e w2 ⟨r, rfl, rfl, hr⟩
  cases r
  · clear hr
    go_wp2_with fail
    refine (awake_ok w1).mono ?_
    rintro e w2 ⟨rfl, b2⟩
    have B2 := Lib.hid b2
    clear b2
    go_wp2
    go_ret
    exact ⟨rfl, B1.out.trans (B2.out.mono B1.out.size)⟩
  · have hnl := hr rfl
    clear hr
    have T0 := Lib.hid (two_new w B1.out)
    go_wp2
    go_loopw [4] (fun t wr => BackRel w w1.heap.size nl l t wr) (fun i _ => nl - (intOf i).toNat)
    case atStart => exact ⟨0, _, false, [], rfl, Nat.zero_le _, T0.out.out, T0.out.mine.below, T0.out.foot, by simp, fun _ => ⟨by simp [cat], fun i q hi => by omega⟩⟩
    case round =>
      obtain ⟨k, v, long, xs, rfl, hk, hT⟩ := hrel
      have T := Lib.hid hT
      have XB : Hid (xs.length ≤ 1049000) := Lib.hid (by have := ptSum_le l k; have := BU.out; have := hT.len; omega)
      clear hT
      by_cases hlt : k < nl
      · obtain ⟨bl, off, q, rfl, hq, hpa⟩ := part_here (PL.out.later T.out.below) (k := k) (by rw [LL.out]; exact hlt)
        have hpw : PtOk w q := by
          obtain ⟨bl0, off0, e0, hpw⟩ := PL.out.2 k q hq
          exact hpw.ok
        have PA := Lib.hid hpa
        have PW := Lib.hid hpw
        have Q := Lib.hid hq
        have d0 := hpa.c0
        have d1 := hpa.c1
        have d2 := hpa.c2
        have QN : Hid (q.n ≤ 1048576) := Lib.hid (by rw [← hpa.ok.len]; have := ptSum_get hq; have := BU.out; omega)
        clear hpa hpw hq
        go_wp2_with fail
        refine (put_part _ v long xs q wr T.out.out PA.out.ok (fun x hx hp hf => by
          have hc := PW.out.reads.2 x hx 0 (by rw [PW.out.len]; exact hp)
          have hlt := World.block_lt_of_cell? w _ hc
          rw [add_block] at hlt
          have := T.out.foot _ hf
          omega) (by have := XB.out; have := QN.out; omega)).mono ?_
        rintro e w3 ⟨rfl, hp3⟩
        have P3 := Lib.hid hp3
        clear hp3
        go_wp2
        go_roundw
        case rel => exact back_step T.out hlt Q.out PW.out P3.out
        case measure => simp [intOf]; omega
      · have ek : k = nl := by omega
        subst ek
        cases long
        · by_cases hl : 16384 < xs.length
          · have HL := Lib.hid hl
            clear hl
            go_wp2_with fail
            refine (oend_ok _ v false xs wr T.out.out (by have := XB.out; omega)).mono ?_
            intro e w5 he
            unfold EndPost at he
            rw [if_pos (.inr HL.out)] at he
            obtain ⟨rfl, rfl⟩ := he
            go_wp2
            go_ret
            exact ⟨rfl, T.out.below⟩
          · have HL := Lib.hid hl
            clear hl
            go_wp2_with fail
            refine (oend_ok _ v false xs wr T.out.out (by have := XB.out; omega)).mono ?_
            intro e w5 he
            obtain ⟨ac, nc, cc, rfl, oc, b5, f5⟩ := endPost_ok he (by have := HL.out; omega)
            have C5 := Lib.hid oc
            have B5 : Hid (Below w.heap.size w w5) := Lib.hid (T.out.below.trans (b5.mono T.out.below.size))
            have NC : Hid (nc ≤ 16384) := Lib.hid (by have := oc.reads.2; have := HL.out; omega)
            clear he oc b5 f5
            go_wp2_with fail
            refine (read_ok ac nc cc xs w5 C5.out.reads.1 C5.out.reads.2 (by have := NC.out; omega)).mono ?_
            rintro e w6 ⟨p, ai, ni, ci, rfl, hp, hai, hin, b6⟩
            have B6 : Hid (Below w.heap.size w w6) := Lib.hid (B5.out.trans (b6.mono B5.out.size))
            have P6 : Hid (w.heap.size ≤ p) := Lib.hid (Nat.le_trans B5.out.size hp)
            obtain ⟨ex, hgood⟩ := T.out.good rfl
            rw [List.take_of_length_le (by rw [LL.out]; exact Nat.le_refl _)] at ex
            have I6 : Hid (InAt w6 p ai ni ci false (cat l)) := Lib.hid (by rw [← ex]; exact hin)
            have CL : Hid ((cat l).length ≤ 16384) := Lib.hid (by rw [← ex]; have := HL.out; omega)
            have GD := Lib.hid hgood
            clear b6 hp hai hin ex hgood
            go_wp2
            go_loopw [8] (fun t wr => BackRel2 w p k l t wr) (fun i _ => k - (intOf i).toNat)
            case atStart => exact ⟨0, ai, ni, ci, rfl, Nat.zero_le _, I6.out, B6.out⟩
            case round =>
              obtain ⟨i, a7, n7, c7, rfl, hi, hI, hB⟩ := hrel
              have I := Lib.hid hI
              have B := Lib.hid hB
              clear hI hB
              by_cases hik : i < k
              · obtain ⟨bl, off, q, rfl, hq, hpa⟩ := part_here (PL.out.later B.out) (k := i) (by rw [LL.out]; exact hik)
                have PA := Lib.hid hpa
                have Q := Lib.hid hq
                have d0 := hpa.c0
                have d1 := hpa.c1
                have d2 := hpa.c2
                clear hpa hq
                have kb0 := PA.out.ok.kind.1
                have kb1 := PA.out.ok.kind.2
                have hqn : q.n ≤ 1048576 := by rw [← PA.out.ok.len]; have := ptSum_get Q.out; have := BU.out; omega
                have CD := Lib.hid (cat_drop Q.out)
                have BB : Hid (Bytes (cat (l.drop i))) := Lib.hid (cat_bytes fun z hz => by
                  obtain ⟨j, hj, e⟩ := List.getElem_of_mem (List.mem_of_mem_drop hz)
                  obtain ⟨_, _, _, hz'⟩ := PL.out.2 j z (by rw [List.getElem?_eq_getElem hj, e])
                  exact pbytes_bytes hz'.ok)
                have CB : Hid ((cat (l.drop i)).length ≤ 140737488355328) := Lib.hid (by
                  have e : cat l = cat (l.take i) ++ cat (l.drop i) := by rw [← cat_append, List.take_append_drop]
                  have := CL.out
                  rw [e, List.length_append] at this
                  omega)
                have XN : Hid (asked q < 18446744073709551616) := Lib.hid (by unfold asked; split; omega; exact PA.out.ok.num)
                rcases kind_cases q.kind with hk4 | hk4 | hk4 | hk4
                · have AK : asked q = q.x := by unfold asked; rw [if_neg (by omega)]
                  have AH := Lib.hid AK
                  clear AK
                  go_wp2_with fail
                  have KA := Keeps.alloc wr (.cells #[.int .u8 q.kind, .int .u64 (q.x : Nat), .slice q.a q.n q.c] 42) (fun _ => False)
                  have HP := heap_lt I.out.cells
                  refine (take_part ⟨q.kind, q.x, q.a, q.n, q.c, q.bs⟩ (I.out.keeps KA (fun h => h) (fun _ _ h => h)) BB.out CB.out (by rw [← AH.out]; exact XN.out) PA.out.ok.kind).mono ?_
                  rintro e w7 ⟨y, ta, tn, tc, t, bad', rest', rfl, hto, htf, ⟨a8, n8, c8, hi8, k8, _⟩, htk⟩
                  have htk' : Took false (pbytes q ++ cat (l.drop (i + 1))) q.kind (asked q) y t bad' rest' := by rw [← CD.out, AH.out]; exact htk
                  obtain ⟨rfl, rfl, e0, e1, e2, e3⟩ := took_back PA.out.ok (GD.out i q hik Q.out) (by omega) htk'
                  have B7 : Hid (Below w.heap.size w w7) := Lib.hid (in_below (B.out.alloc B.out.size _) k8 P6.out)
                  have v0 : w7.cell? ⟨wr.heap.size, 0, none⟩ = some (.int .u8 q.kind) := by rw [k8.cell (by simp) (by unfold Only; simp; omega), World.cell?_alloc_new]; rfl
                  have v1 : w7.cell? ⟨wr.heap.size, 1, none⟩ = some (.int .u64 (q.x : Nat)) := by rw [k8.cell (by simp) (by unfold Only; simp; omega), World.cell?_alloc_new]; rfl
                  have v2 : w7.cell? ⟨wr.heap.size, 2, none⟩ = some (.slice q.a q.n q.c) := by rw [k8.cell (by simp) (by unfold Only; simp; omega), World.cell?_alloc_new]; rfl
                  have PO : PtOk w7 q := ((PL.out.later B7.out).2 i q Q.out).elim fun _ h => h.elim fun _ h => h.2.ok
                  have s1 := str_ok (c := tc) hto.reads.1 hto.reads.2
                  have s2 := str_ok (c := q.c) PO.reads PO.len
                  obtain ⟨rfl, rfl⟩ := e0 hk4
                  have hbyt := PO.bytes
                  have I8 := Lib.hid hi8
                  clear htk htk' e0 e1 e2 e3 k8 KA hto htf hi8 PO
                  by_cases hB : q.bs = []
                  · have hq : ((strOfNums []).toList == (strOfNums q.bs).toList) = true := by rw [hB]; simp
                    clear hB hbyt
                    go_wp2
                    go_roundw
                    case rel => exact ⟨i + 1, a8, n8, c8, rfl, hik, I8.out, B7.out⟩
                    case measure => simp [intOf]; omega
                  · have hq : ((strOfNums []).toList == (strOfNums q.bs).toList) = false := strs_ne (fun b hb => by cases hb) hbyt (fun e => hB e.symm)
                    clear hB hbyt
                    go_wp2
                    go_roundw
                    case rel => exact ⟨i + 1, a8, n8, c8, rfl, hik, I8.out, B7.out⟩
                    case measure => simp [intOf]; omega
                · have AK : asked q = q.n := by unfold asked; rw [if_pos (by omega)]
                  have AH := Lib.hid AK
                  clear AK
                  go_wp2_with fail
                  have KA := Keeps.alloc wr (.cells #[.int .u8 q.kind, .int .u64 (q.n : Nat), .slice q.a q.n q.c] 42) (fun _ => False)
                  have HP := heap_lt I.out.cells
                  refine (take_part ⟨q.kind, q.n, q.a, q.n, q.c, q.bs⟩ (I.out.keeps KA (fun h => h) (fun _ _ h => h)) BB.out CB.out (by rw [← AH.out]; exact XN.out) PA.out.ok.kind).mono ?_
                  rintro e w7 ⟨y, ta, tn, tc, t, bad', rest', rfl, hto, htf, ⟨a8, n8, c8, hi8, k8, _⟩, htk⟩
                  have htk' : Took false (pbytes q ++ cat (l.drop (i + 1))) q.kind (asked q) y t bad' rest' := by rw [← CD.out, AH.out]; exact htk
                  obtain ⟨rfl, rfl, e0, e1, e2, e3⟩ := took_back PA.out.ok (GD.out i q hik Q.out) (by omega) htk'
                  have B7 : Hid (Below w.heap.size w w7) := Lib.hid (in_below (B.out.alloc B.out.size _) k8 P6.out)
                  have v0 : w7.cell? ⟨wr.heap.size, 0, none⟩ = some (.int .u8 q.kind) := by rw [k8.cell (by simp) (by unfold Only; simp; omega), World.cell?_alloc_new]; rfl
                  have v1 : w7.cell? ⟨wr.heap.size, 1, none⟩ = some (.int .u64 (q.n : Nat)) := by rw [k8.cell (by simp) (by unfold Only; simp; omega), World.cell?_alloc_new]; rfl
                  have v2 : w7.cell? ⟨wr.heap.size, 2, none⟩ = some (.slice q.a q.n q.c) := by rw [k8.cell (by simp) (by unfold Only; simp; omega), World.cell?_alloc_new]; rfl
                  have PO : PtOk w7 q := ((PL.out.later B7.out).2 i q Q.out).elim fun _ h => h.elim fun _ h => h.2.ok
                  have s1 := str_ok (c := tc) hto.reads.1 hto.reads.2
                  have s2 := str_ok (c := q.c) PO.reads PO.len
                  obtain ⟨rfl, rfl⟩ := e1 hk4
                  have I8 := Lib.hid hi8
                  clear htk htk' e0 e1 e2 e3 k8 KA hto htf hi8 PO
                  go_wp2
                  go_roundw
                  case rel => exact ⟨i + 1, a8, n8, c8, rfl, hik, I8.out, B7.out⟩
                  case measure => simp [intOf]; omega
                · have AK : asked q = q.n := by unfold asked; rw [if_pos (by omega)]
                  have AH := Lib.hid AK
                  clear AK
                  go_wp2_with fail
                  have KA := Keeps.alloc wr (.cells #[.int .u8 q.kind, .int .u64 (q.n : Nat), .slice q.a q.n q.c] 42) (fun _ => False)
                  have HP := heap_lt I.out.cells
                  refine (take_part ⟨q.kind, q.n, q.a, q.n, q.c, q.bs⟩ (I.out.keeps KA (fun h => h) (fun _ _ h => h)) BB.out CB.out (by rw [← AH.out]; exact XN.out) PA.out.ok.kind).mono ?_
                  rintro e w7 ⟨y, ta, tn, tc, t, bad', rest', rfl, hto, htf, ⟨a8, n8, c8, hi8, k8, _⟩, htk⟩
                  have htk' : Took false (pbytes q ++ cat (l.drop (i + 1))) q.kind (asked q) y t bad' rest' := by rw [← CD.out, AH.out]; exact htk
                  obtain ⟨rfl, rfl, e0, e1, e2, e3⟩ := took_back PA.out.ok (GD.out i q hik Q.out) (by omega) htk'
                  have B7 : Hid (Below w.heap.size w w7) := Lib.hid (in_below (B.out.alloc B.out.size _) k8 P6.out)
                  have v0 : w7.cell? ⟨wr.heap.size, 0, none⟩ = some (.int .u8 q.kind) := by rw [k8.cell (by simp) (by unfold Only; simp; omega), World.cell?_alloc_new]; rfl
                  have v1 : w7.cell? ⟨wr.heap.size, 1, none⟩ = some (.int .u64 (q.n : Nat)) := by rw [k8.cell (by simp) (by unfold Only; simp; omega), World.cell?_alloc_new]; rfl
                  have v2 : w7.cell? ⟨wr.heap.size, 2, none⟩ = some (.slice q.a q.n q.c) := by rw [k8.cell (by simp) (by unfold Only; simp; omega), World.cell?_alloc_new]; rfl
                  have PO : PtOk w7 q := ((PL.out.later B7.out).2 i q Q.out).elim fun _ h => h.elim fun _ h => h.2.ok
                  have s1 := str_ok (c := tc) hto.reads.1 hto.reads.2
                  have s2 := str_ok (c := q.c) PO.reads PO.len
                  obtain ⟨rfl, rfl⟩ := e2 hk4
                  have I8 := Lib.hid hi8
                  clear htk htk' e0 e1 e2 e3 k8 KA hto htf hi8 PO
                  go_wp2
                  go_roundw
                  case rel => exact ⟨i + 1, a8, n8, c8, rfl, hik, I8.out, B7.out⟩
                  case measure => simp [intOf]; omega
                · have AK : asked q = q.x := by unfold asked; rw [if_neg (by omega)]
                  have AH := Lib.hid AK
                  clear AK
                  go_wp2_with fail
                  have KA := Keeps.alloc wr (.cells #[.int .u8 q.kind, .int .u64 (q.x : Nat), .slice q.a q.n q.c] 42) (fun _ => False)
                  have HP := heap_lt I.out.cells
                  refine (take_part ⟨q.kind, q.x, q.a, q.n, q.c, q.bs⟩ (I.out.keeps KA (fun h => h) (fun _ _ h => h)) BB.out CB.out (by rw [← AH.out]; exact XN.out) PA.out.ok.kind).mono ?_
                  rintro e w7 ⟨y, ta, tn, tc, t, bad', rest', rfl, hto, htf, ⟨a8, n8, c8, hi8, k8, _⟩, htk⟩
                  have htk' : Took false (pbytes q ++ cat (l.drop (i + 1))) q.kind (asked q) y t bad' rest' := by rw [← CD.out, AH.out]; exact htk
                  obtain ⟨rfl, rfl, e0, e1, e2, e3⟩ := took_back PA.out.ok (GD.out i q hik Q.out) (by omega) htk'
                  have B7 : Hid (Below w.heap.size w w7) := Lib.hid (in_below (B.out.alloc B.out.size _) k8 P6.out)
                  have v0 : w7.cell? ⟨wr.heap.size, 0, none⟩ = some (.int .u8 q.kind) := by rw [k8.cell (by simp) (by unfold Only; simp; omega), World.cell?_alloc_new]; rfl
                  have v1 : w7.cell? ⟨wr.heap.size, 1, none⟩ = some (.int .u64 (q.x : Nat)) := by rw [k8.cell (by simp) (by unfold Only; simp; omega), World.cell?_alloc_new]; rfl
                  have v2 : w7.cell? ⟨wr.heap.size, 2, none⟩ = some (.slice q.a q.n q.c) := by rw [k8.cell (by simp) (by unfold Only; simp; omega), World.cell?_alloc_new]; rfl
                  have PO : PtOk w7 q := ((PL.out.later B7.out).2 i q Q.out).elim fun _ h => h.elim fun _ h => h.2.ok
                  have s1 := str_ok (c := tc) hto.reads.1 hto.reads.2
                  have s2 := str_ok (c := q.c) PO.reads PO.len
                  obtain ⟨rfl, rfl⟩ := e3 hk4
                  have hbyt := PO.bytes
                  have I8 := Lib.hid hi8
                  clear htk htk' e0 e1 e2 e3 k8 KA hto htf hi8 PO
                  by_cases hB : q.bs = []
                  · have hq : ((strOfNums []).toList == (strOfNums q.bs).toList) = true := by rw [hB]; simp
                    clear hB hbyt
                    go_wp2
                    go_roundw
                    case rel => exact ⟨i + 1, a8, n8, c8, rfl, hik, I8.out, B7.out⟩
                    case measure => simp [intOf]; omega
                  · have hq : ((strOfNums []).toList == (strOfNums q.bs).toList) = false := strs_ne (fun b hb => by cases hb) hbyt (fun e => hB e.symm)
                    clear hB hbyt
                    go_wp2
                    go_roundw
                    case rel => exact ⟨i + 1, a8, n8, c8, rfl, hik, I8.out, B7.out⟩
                    case measure => simp [intOf]; omega
              · have ei : i = k := by omega
                subst ei
                have n0 : n7 = 0 := by have := I.out.len; rw [List.drop_of_length_le (by rw [LL.out]; exact Nat.le_refl _)] at this; simpa [cat] using this.symm
                go_wp2_with (go_at_call 13; refine (iover_nil I.out n0).mono ?_; rintro e w8 ⟨rfl, rfl⟩)
                go_ret
                exact ⟨rfl, B.out⟩
        · go_wp2_with fail
          refine (oend_ok _ v true xs wr T.out.out (by have := XB.out; omega)).mono ?_
          intro e w5 he
          unfold EndPost at he
          rw [if_pos (.inl rfl)] at he
          obtain ⟨rfl, rfl⟩ := he
          go_wp2
          go_ret
          exact ⟨rfl, T.out.below⟩
end Go.Proofs.Ytjpnbgimhmgooaa
