/-
  The ledger laws' example answers true.
-/
import Derived.Test.YteccmklacgpodaaLTell
namespace Go.Proofs.Yteccmklacgpodaa
open Go.RowKit
set_option maxRecDepth 100000
set_option linter.unusedSimpArgs false
theorem KeptX.toBelow {w w' : World} {X : List Nat} {B : Nat} (h : KeptX w w' X) (hX : ∀ x ∈ X, B ≤ x) (hB : B ≤ w.heap.size) : Below B w w' := ⟨h.os, h.tape, h.output, h.size, fun k hk => h.block k (Nat.lt_of_lt_of_le hk hB) (fun hx => by have := hX k hx; omega)⟩
/-- A new ledger. -/
theorem new_lg (n : Int) (w : World) (h : 1 ≤ n ∧ n ≤ 256) : Calls Try.prog 9 #[.int .i64 n] w fun e w' => e = .returned (.tuple #[.pointer (some ⟨w.heap.size + 2, 0, none⟩), .int .i64 0]) ∧ LgW w' (w.heap.size + 2) w.heap.size (w.heap.size + 1) n [] [] (-1) false ∧ Below w.heap.size w w' := by
  refine (new_ok n w h).mono ?_
  rintro e w' ⟨rfl, rfl⟩
  have hs1 : (w.alloc (.map #[] 0)).heap.size = w.heap.size + 1 := by simp
  have hs2 : ((w.alloc (.map #[] 0)).alloc (.map #[] 0)).heap.size = w.heap.size + 2 := by simp
  refine ⟨rfl, ⟨?_, ?_, ?_, by simp, by omega⟩, bAlloc (bAlloc (bAlloc (Below.refl _ _) _) _) _⟩
  · have := Blk.new ((w.alloc (.map #[] 0)).alloc (.map #[] 0)) 62 #[.int .i64 n, .map (some w.heap.size), .map (some (w.heap.size + 1)), .int .i64 (-1), .bool false]
    rwa [hs2] at this
  · have h1 : MapIs Key4.val Ev.val Try.prog 41 (w.alloc (.map #[] 0)) w.heap.size [] := MapIs.made w
    exact h1.same ((Below.heap_alloc _ _ _ (by simp; omega)).trans (Below.heap_alloc _ _ _ (by simp)))
  · have h1 : MapIs (Value.int .i64) (fun p : Value × List Ev => p.1) Try.prog 3 ((w.alloc (.map #[] 0)).alloc (.map #[] 0)) (w.alloc (.map #[] 0)).heap.size [] := MapIs.made _
    rw [hs1] at h1
    exact h1.same (Below.heap_alloc _ _ _ (by simp))
def awE : Ev := ⟨0, 1, 1, 0, 0, 0, 0, 0, 0⟩
set_option maxHeartbeats 4000000 in
theorem awake_any (w : World) : Calls Try.prog 8 #[] w fun e w' => e = .returned (.bool true) ∧ Below w.heap.size w w' := by
  have HN := Lib.hid (new_lg 4 w (by omega))
  go_enter Try.func8, Try.ntmps8
  go_upto_region 3 with (first | (go_at_call 9; refine HN.out.mono ?_; rintro e w1 ⟨rfl, hg1, hb1⟩; have HG1 := Lib.hid hg1; have HB1 := Lib.hid hb1; clear hg1 hb1))
  obtain ⟨w2, hw2⟩ : ∃ w2, w2 = w1.alloc (.cells #[.int .i64 awE.frame, .int .i64 awE.emitter, .int .i64 awE.kind, .int .i64 awE.ord, .int .i64 awE.asset, .int .i64 awE.gain, .int .i64 awE.pan, .int .i64 awE.prio, .int .i64 awE.len] 43) := ⟨_, rfl⟩
  have hw2' : w2 = w1.alloc (.cells #[.int .i64 0, .int .i64 1, .int .i64 1, .int .i64 0, .int .i64 0, .int .i64 0, .int .i64 0, .int .i64 0, .int .i64 0] 43) := hw2
  have HE2 : Hid (Blk w2 w1.heap.size 43 #[.int .i64 0, .int .i64 1, .int .i64 1, .int .i64 0, .int .i64 0, .int .i64 0, .int .i64 0, .int .i64 0, .int .i64 0]) := Lib.hid (by rw [hw2']; exact Blk.new _ _ _)
  have HG2 : Hid (LgW w2 (w.heap.size + 2) w.heap.size (w.heap.size + 1) 4 [] [] (-1) false) := Lib.hid (by rw [hw2]; exact HG1.out.alloc _)
  have HB2 : Hid (Below w.heap.size w w2) := Lib.hid (by rw [hw2]; exact bAlloc HB1.out _)
  rw [← hw2']
  clear hw2 hw2'
  obtain ⟨e0, e1, e2, e3, e4, e5, e6, e7, e8⟩ := Blk.ev HE2.out
  have lE := HE2.out.lt
  have HT : Hid (Calls Try.prog 14 #[.pointer (some ⟨w.heap.size + 2, 0, none⟩), .agg #[.int .i64 0, .slice (some ⟨w2.heap.size, 0, none⟩) 1 1], .int .i64 2] (w2.alloc (.cells #[.int .i64 0, .int .i64 1, .int .i64 1, .int .i64 0, .int .i64 0, .int .i64 0, .int .i64 0, .int .i64 0, .int .i64 0] 43)) fun e w' => ∃ (A' : Option Addr) (n' c' : Nat) (v : Value), e = .returned (.tuple #[.slice A' n' c', .int .i64 0]) ∧ OwnL w' w.heap.size 57 12 (.slice A' n' c') Cm.cells [⟨1, awE, 2, false⟩] ∧ LgW w' (w.heap.size + 2) w.heap.size (w.heap.size + 1) 4 [awE] (setT [] 0 v [awE]) (-1) false ∧ Below w.heap.size w w') := Lib.hid (by
    have hal := HG2.out.alloc (.cells #[.int .i64 0, .int .i64 1, .int .i64 1, .int .i64 0, .int .i64 0, .int .i64 0, .int .i64 0, .int .i64 0, .int .i64 0] 43)
    have hrd := rd_new w2 #[.int .i64 0, .int .i64 1, .int .i64 1, .int .i64 0, .int .i64 0, .int .i64 0, .int .i64 0, .int .i64 0, .int .i64 0] 43 _ rfl _ (Nat.lt_succ_self _)
    have := tell_ok hal LvOk.nil (by decide) (by decide) (by decide) 0 2 (some ⟨w2.heap.size, 0, none⟩) 1 [awE] (by decide) (by rw [World.size_alloc]; exact hrd) (by decide +kernel) (by intro e he; rw [List.mem_singleton.1 he]; decide +kernel) (by decide) (by decide)
    have ht : tellF 4 2 [awE] 0 [] = ([awE], [⟨1, awE, 2, false⟩]) := by decide +kernel
    rw [ht] at this
    refine this.mono ?_
    rintro e w' ⟨A', n', c', v, rfl, h1, h2, h3⟩
    have hws := HB2.out.size
    refine ⟨A', n', c', v, rfl, h1.more (by rw [World.size_alloc]; omega), h2, ?_⟩
    exact (bAlloc HB2.out _).trans (h3.toBelow (by intro x hx; simp at hx; omega) (by rw [World.size_alloc]; omega)))
  go_upto_region 4 with (first | (go_at_call 14; refine HT.out.mono ?_; rintro e w3 ⟨A3, n3, c3, v3, rfl, ho3, hg3, hb3⟩; have HO3 := Lib.hid ho3; have HG3 := Lib.hid hg3; have HB3 := Lib.hid hb3; clear ho3 hg3 hb3))
  clear e0 e1 e2 e3 e4 e5 e6 e7 e8 lE HE2 HG2 HB2 HT HG1 HB1
  have HT : Hid (Calls Try.prog 14 #[.pointer (some ⟨w.heap.size + 2, 0, none⟩), .agg #[.int .i64 0, .slice none 0 0], .int .i64 3] w3 fun e w' => ∃ (A' : Option Addr) (n' c' : Nat), e = .returned (.tuple #[.slice A' n' c', .int .i64 0]) ∧ OwnL w' w3.heap.size 57 12 (.slice A' n' c') Cm.cells [⟨3, awE, 0, false⟩] ∧ OwnL w' w.heap.size 57 12 (.slice A3 n3 c3) Cm.cells [⟨1, awE, 2, false⟩] ∧ Below w.heap.size w w') := Lib.hid (by
    have hok : LvOk [awE] := ⟨List.pairwise_singleton _ _, by intro e he; rw [List.mem_singleton.1 he]; decide +kernel⟩
    have := tell_ok HG3.out hok (by decide) (by decide) (by unfold setT; simp) 0 3 none 0 [] (by decide) (Rd.nil _ _ _) (by decide +kernel) (by simp) (by decide) (by decide)
    have ht : tellF 4 3 [] 0 [awE] = ([], [⟨3, awE, 0, false⟩]) := by decide +kernel
    rw [ht] at this
    refine this.mono ?_
    rintro e w' ⟨A', n', c', v, rfl, h1, h2, h3⟩
    have hws := HB3.out.size
    obtain ⟨es, ck, hl⟩ := HG3.out.live.block
    obtain ⟨es', ck', ht'⟩ := HG3.out.told.block
    refine ⟨A', n', c', rfl, h1, HO3.out.same (fun k hk => h3.block k (HO3.out.block_lt k hk) ?_), ?_⟩
    · intro hx
      simp only [List.mem_cons, List.not_mem_nil, or_false] at hx
      rcases hx with rfl | rfl
      · exact HO3.out.noMap hl hk
      · exact HO3.out.noMap ht' hk
    · exact HB3.out.trans (h3.toBelow (by intro x hx; simp at hx; omega) (by omega)))
  go_upto_region 5 with (first | (go_at_call 14; refine HT.out.mono ?_; rintro e w4 ⟨A4, n4, c4, rfl, ho4, ho34, hb4⟩; have HO4 := Lib.hid ho4; have HO34 := Lib.hid ho34; have HB4 := Lib.hid hb4; clear ho4 ho34 hb4))
  obtain ⟨g3, rfl, rfl, -, l3⟩ := HO34.out.formA (by decide)
  obtain ⟨g4, rfl, rfl, -, l4⟩ := HO4.out.formA (by decide)
  have c30 := HO34.out.cell Cm.cells_length (k := 0) (j := 0) (by decide) rfl
  have c32 := HO34.out.cell Cm.cells_length (k := 0) (j := 10) (by decide) rfl
  have c40 := HO4.out.cell Cm.cells_length (k := 0) (j := 0) (by decide) rfl
  simp only [Nat.zero_mul, Nat.zero_add] at c30 c32 c40
  clear HO3 HG3 HB3 HT
  go_wp2
  go_ret
  exact ⟨rfl, HB4.out⟩
end Go.Proofs.Yteccmklacgpodaa
