/- The reference's Place, Send, Take, Same. -/
import Derived.Test.YtalhpicnepofaaaC6
import Derived.BigQuiet
import Derived.Deep.QuietTactic
namespace Go.Proofs.Ytalhpicnepofaaa
open Go.RowKit
set_option linter.unusedVariables false
set_option linter.unusedSimpArgs false

theorem rplace_ok {w : World} {o : Nat} {v : Value} {l : List Lt} (h : NetAt w 40 o v l) (i : Int) (hl : l.length ≤ 300) :
    Calls Try.prog 16 #[.pointer (some ⟨o, 0, none⟩), .int .i64 i] w fun e w' => e = .returned (.int .i64 (placeOf l.length i)) ∧ w = w' := by
  obtain ⟨a, c, hv⟩ := row_form h.own
  have c0 : w.cell? ⟨o, 0, none⟩ = some (.slice a l.length c) := by rw [cell_of h.cells, hv]; rfl
  clear h hv
  generalize l.length = n at *
  by_cases hn : n = 0
  · subst hn
    go_enter Try.func16, Try.ntmps16
    go_wp2
    go_ret
    exact ⟨rfl, rfl⟩
  · have hnb : ((n : Int) == 0) = false := by simp; omega
    have hn1 : (1 : Int) ≤ n := by omega
    by_cases hi : i < 0
    · go_enter Try.func16, Try.ntmps16
      go_wp2
      go_ret
      refine ⟨?_, rfl⟩
      unfold placeOf
      rw [if_neg hn, if_pos hi]
      rfl
    · have hi0 : 0 ≤ i := by omega
      have hni : ¬ i < 0 := hi
      have hm : IntKind.i64.wrap (i.tmod n) = i % n := by
        rw [Int.tmod_eq_emod_of_nonneg hi0]
        exact IntWalk.i64_in _ (by have := Int.emod_nonneg i (show (n : Int) ≠ 0 by omega); have := Int.emod_lt_of_pos i (show (0 : Int) < n by omega); omega)
      go_enter Try.func16, Try.ntmps16
      go_wp2
      go_ret
      refine ⟨?_, rfl⟩
      unfold placeOf
      rw [if_neg hn, if_neg (by omega)]
      rfl

/-- What the reference's Net has become. -/
def RefPost (w : World) (o : Nat) (v : Value) (l' : List Lt) (w' : World) : Prop :=
  ∃ v', NetAt w' 40 o v' l' ∧ Keeps w w' (Foot o v) ∧ Fresh w v v'

def RSendPost (w : World) (o : Nat) (v : Value) (l : List Lt) (q : Lt) (e : Ending) (w' : World) : Prop :=
  if 200 ≤ l.length ∨ 16384 < q.n then e = .returned (.bool false) ∧ RefPost w o v l w' else e = .returned (.bool true) ∧ RefPost w o v (l ++ [q]) w'

theorem ref_end {w wb w3 : World} {o : Nat} {v v' : Value} {l : List Lt} {q : Lt} (H : NetAt w 40 o v l) (Q : LtOk w q (Foot o v)) (BA : Below w.heap.size w wb)
    (O3 : w3.ownsRow 0 27 3 v' (l ++ [q]).length (flat (l ++ [q]))) (K3 : Keeps wb w3 (fun k => v.ownBlock = some k)) (F3 : Fresh wb v v') :
    RefPost w o v (l ++ [q]) (w3.setCell ⟨o, 0, none⟩ v') := by
  have hs := BA.size
  have ho := heap_lt H.cells
  have BX := BA
  have N := H.later BX
  have hap : v'.ownBlock ≠ some o := fun e => by
    rcases F3 o e with e1 | e1
    · exact H.apart e1
    · omega
  have hcell := K3.heap N.cells H.apart
  have KF : Keeps w3 (w3.setCell ⟨o, 0, none⟩ v') (fun k => k = o) := Keeps.setCell _ _ _ rfl
  have F0 : Fresh w v v' := fun k hk => (F3 k hk).imp id (fun h => by omega)
  refine ⟨v', ⟨?_, ?_, hap, ?_⟩, ?_, F0⟩
  · rw [heap_setCell_at hcell]; rfl
  · exact KF.owns O3 (fun k hk e => hap (e ▸ hk))
  · have far : ∀ p : Lt, LtOk w p (Foot o v) → LtOk (w3.setCell ⟨o, 0, none⟩ v') p (Foot o v') := by
      intro p hp
      have h1 := ((hp.later BX).keeps K3 (fun x hx hn e => hp.away x hx hn (.inr e))).keeps KF (fun x hx hn e => hp.away x hx hn (.inl e))
      refine ⟨h1.reads, h1.len, h1.none, fun x hx hn e => ?_⟩
      have hlt := hp.lt hx hn
      rcases e with e | e
      · exact hp.away x hx hn (.inl e)
      · rcases F0 _ e with e1 | e1
        · exact hp.away x hx hn (.inr e1)
        · omega
    intro p hp
    rcases List.mem_append.1 hp with h | h
    · exact far p (H.lts p h)
    · simp only [List.mem_singleton] at h
      subst h
      exact far p Q
  · exact ((Keeps.of_below BX (S := Foot o v)).trans K3 (fun i _ e => .inr e)).trans KF (fun i _ e => .inl e)

set_option maxRecDepth 100000 in
set_option maxHeartbeats 2000000 in
theorem rsend_ok {w : World} {o : Nat} {v : Value} {l : List Lt} (h : NetAt w 40 o v l) (q : Lt) (hq : LtOk w q (Foot o v)) (hl : l.length ≤ 300) :
    Calls Try.prog 17 #[.pointer (some ⟨o, 0, none⟩), q.agg] w (RSendPost w o v l q) := by
  have BA : Hid (Below w.heap.size w (w.alloc (.cells #[.int .i64 q.f, .int .i64 q.t, .slice q.a q.n q.c] 27))) := Lib.hid ((Below.refl _ w).alloc (Nat.le_refl _) _)
  have H := Lib.hid h
  have Q := Lib.hid hq
  have H1 : Hid (NetAt (w.alloc (.cells #[.int .i64 q.f, .int .i64 q.t, .slice q.a q.n q.c] 27)) 40 o v l) := Lib.hid (h.later BA.out)
  obtain ⟨a, c, hv⟩ := row_form h.own
  have c0 : (w.alloc (.cells #[.int .i64 q.f, .int .i64 q.t, .slice q.a q.n q.c] 27)).cell? ⟨o, 0, none⟩ = some v := by rw [cell_of H1.out.cells]; rfl
  have fail1 : Hid (RefPost w o v l (w.alloc (.cells #[.int .i64 q.f, .int .i64 q.t, .slice q.a q.n q.c] 27))) := Lib.hid ⟨v, H1.out, Keeps.alloc _ _ _, fun k hk => .inl hk⟩
  have VB : Hid (v.ownBlock ≠ some o) := Lib.hid h.apart
  simp only [Lt.agg]
  clear h hq
  by_cases h2 : 200 ≤ l.length
  · have h2i : (200 : Int) ≤ l.length := by omega
    subst hv
    go_enter Try.func17, Try.ntmps17
    go_wp2
    go_ret
    unfold RSendPost
    rw [if_pos (.inl h2)]
    exact ⟨rfl, fail1.out⟩
  · have h2i : ¬ (200 : Int) ≤ l.length := by omega
    by_cases h3 : 16384 < q.n
    · have h3i : (16384 : Int) < q.n := by omega
      subst hv
      go_enter Try.func17, Try.ntmps17
      go_wp2
      go_ret
      unfold RSendPost
      rw [if_pos (.inr h3)]
      exact ⟨rfl, fail1.out⟩
    · have h3i : ¬ (16384 : Int) < q.n := by omega
      have V := Lib.hid hv
      have WA : Hid (Below w.heap.size w (w.alloc (.cells #[.int .i64 q.f, .int .i64 q.t, .slice q.a q.n q.c] 27))) := BA
      have HA : Hid (NetAt ((w.alloc (.cells #[.int .i64 q.f, .int .i64 q.t, .slice q.a q.n q.c] 27)).alloc (.cells #[.int .i64 q.f, .int .i64 q.t, .slice q.a q.n q.c] 27)) 40 o v l) := Lib.hid (H.out.later (WA.out.alloc WA.out.size _))
      have c1 : ((w.alloc (.cells #[.int .i64 q.f, .int .i64 q.t, .slice q.a q.n q.c] 27)).alloc (.cells #[.int .i64 q.f, .int .i64 q.t, .slice q.a q.n q.c] 27)).cell? ⟨o, 0, none⟩ = some v := (cell_of HA.out.cells 0).trans rfl
      have WD : Hid (Below w.heap.size w ((w.alloc (.cells #[.int .i64 q.f, .int .i64 q.t, .slice q.a q.n q.c] 27)).alloc (.cells #[.int .i64 q.f, .int .i64 q.t, .slice q.a q.n q.c] 27)).drew) := Lib.hid ((WA.out.alloc WA.out.size _).trans ((below_drew _).mono (by simp; omega)))
      have VV : Hid (∀ j u, q.vals[j]? = some u → ((w.alloc (.cells #[.int .i64 q.f, .int .i64 q.t, .slice q.a q.n q.c] 27)).alloc (.cells #[.int .i64 q.f, .int .i64 q.t, .slice q.a q.n q.c] 27)).cell? ((⟨w.heap.size + 1, 0, none⟩ : Addr).add j) = some u) := Lib.hid (by
        intro j u hu
        have := vals_block (w.alloc (.cells #[.int .i64 q.f, .int .i64 q.t, .slice q.a q.n q.c] 27)) q j u hu
        simpa using this)
      subst hv
      go_enter Try.func17, Try.ntmps17
      go_wp2
      go_region_law (first | (refine step_app27 rfl _ _ rfl (.slice a l.length c) l rfl HA.out.own ⟨w.heap.size + 1, 0, none⟩ 1 q rfl VV.out (by omega) ?_; intro a2 n2 c4 w3 ho3 hk3 hf3; have k3 := hk3.heap HA.out.cells VB.out; have c3 : w3.cell? ⟨o, 0, none⟩ = some (.slice a l.length c) := (cell_of k3 0).trans rfl; have f3 : w3.frozen? ⟨o, 0, none⟩ = false := frozen_of k3 0))
      all_goals
        have O3 := Lib.hid ho3
        have K3 := Lib.hid hk3
        have F3 := Lib.hid hf3
        clear ho3 hk3 hf3 k3 c1
        try simp [Act.put, Act.eval]
        go_wp2
        go_ret
        unfold RSendPost
        rw [if_neg (by omega)]
        exact ⟨rfl, ref_end H.out Q.out WD.out O3.out K3.out F3.out⟩

set_option maxRecDepth 100000 in
set_option maxHeartbeats 2000000 in
theorem same_ok {w : World} (p q : Lt) {S T : Nat → Prop} (hp : LtOk w p S) (hq : LtOk w q T) (hk : p.key = q.key) : Calls Try.prog 19 #[p.agg, q.agg] w fun e w' => e = .returned (.bool true) ∧ Below w.heap.size w w' := by
  obtain ⟨f, t, a, n, c, bs⟩ := p
  obtain ⟨f', t', a', n', c', bs'⟩ := q
  simp only [Lt.key, Prod.mk.injEq] at hk
  obtain ⟨rfl, rfl, rfl⟩ := hk
  have B : Hid (Below w.heap.size w ((w.alloc (.cells #[.int .i64 f, .int .i64 t, .slice a n c] 27)).alloc (.cells #[.int .i64 f, .int .i64 t, .slice a' n' c'] 27))) := Lib.hid (((Below.refl _ w).alloc (Nat.le_refl _) _).alloc (by simp) _)
  have s1 := str_ok (c := c) (hp.later B.out).reads hp.len
  have s2 := str_ok (c := c') (hq.later B.out).reads hq.len
  simp only [Lt.agg]
  clear hp hq
  go_enter Try.func19, Try.ntmps19
  go_wp2
  go_ret
  exact ⟨by simp, B.out⟩
end Go.Proofs.Ytalhpicnepofaaa
