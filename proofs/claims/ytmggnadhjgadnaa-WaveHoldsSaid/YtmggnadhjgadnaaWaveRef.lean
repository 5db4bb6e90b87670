/-
  The walks of the reference's Low, Fits and Samples.
-/
import Derived.Test.YtmggnadhjgadnaaWaveRead2
namespace Go.Proofs.Ytmggnadhjgadnaa
open Go.RowKit

/-- The bytes of n in turn, as the reference makes them. -/
theorem le_snoc (n : Int) (s : Nat) : le n (s + 1) = le n s ++ [leB n s] := by
  unfold le rowOf
  rw [List.range_succ, List.map_append]; rfl
theorem pow256 (j : Nat) : (2 : Int) ^ (8 * j) = 256 ^ j := by rw [Int.pow_mul]; rfl
theorem shr_step (n : Int) (j : Nat) : n / 2 ^ (8 * j) / 256 = n / 2 ^ (8 * (j + 1)) := by
  rw [Int.ediv_ediv_of_nonneg (Int.pow_nonneg (by decide)), Nat.mul_add, Int.pow_add]; rfl

set_option maxRecDepth 100000 in
set_option maxHeartbeats 1000000 in
theorem low_any (n n0 : Int) (size : Nat) (w : World) (hn : (0 ≤ n ∧ n0 = n) ∨ (n < 0 ∧ n + 65536 = n0)) (h0 : 0 ≤ n0) (h1 : n0 ≤ 1000000000000) (hs1 : 1 ≤ size) (h8 : size ≤ 8) :
    Calls Try.prog 24 #[.int .i64 n, .int .i64 size] w fun e w' => e = .returned (str (le n0 size)) ∧ Below w.heap.size w w' := by
  obtain ⟨ib, hib, hbz, hb1, hb2⟩ := info_parts Try.infoByte
  rcases hn with ⟨hn, rfl⟩ | ⟨hn, hn0⟩
  all_goals
    go_enter Try.func24, Try.ntmps24
    go_wp2
    go_loopw [0, 5, 6] (fun x v i wr => ∃ j : Nat, j ≤ size ∧ i = .int .i64 j ∧ ∃ q : Int, x = .int .i64 q ∧ Hid (q = n0 / 2 ^ (8 * j)) ∧ 0 ≤ q ∧ q ≤ 1000000000000 ∧ ∃ A c, v = .slice A j c ∧ OwnL wr w.heap.size 5 1 (.slice A j c) bc (le n0 j) ∧ Below w.heap.size w wr) (fun _ _ i _ => size - (intOf i).toNat)
    case atStart => exact ⟨0, Nat.zero_le _, rfl, _, rfl, Lib.hid (by simp), h0, h1, some ⟨w.heap.size, 0, none⟩, 0, rfl, OwnL.lit (f := bc) [] #[] (Nat.le_refl _) (by simp) (fun _ => rfl) rfl rfl rfl, bAlloc (Below.refl _ _) _⟩
    case round =>
      obtain ⟨j, hj, rfl, q, rfl, hq, q0, q1, A, c, rfl, hown, hb⟩ := hrel
      have HO := Lib.hid hown
      clear hown
      by_cases hlt : j < size
      · have hqb : q % 256 = ((leB n0 j).toNat : Int) := by
          rw [leB_val, hq.out]
        have HQB := Lib.hid hqb
        clear hqb
        go_wp2_with (at_builtin; refine wpList_append_own _ rfl (.tmp 17) (.tmp 21) 40 rfl w.heap.size 5 ib _ 1 1 Try.underlying40 hib hbz hb1 hb2 rfl (by decide) (.slice A j c) j ((le n0 j).flatMap bc) rfl ?c0 ⟨wr.heap.size, 0, none⟩ 1 1 [.int .u8 (leB n0 j).toNat] rfl rfl ?c1 ?c2 ?c3 ?c4 ?c5 ?_)
        case c0 => unfold OwnL at HO; have h := HO.out; rw [le_length] at h; exact World.ownsRow.alloc h _
        case c1 => rw [HQB.out]; exact cell_new_row wr #[.int .u8 (leB n0 j).toNat] 5 _ rfl
        case c2 => simp [Value.oneCell']
        case c3 => simp [maxLen]; omega
        case c4 => omega
        case c5 => have := hb.size; simp; omega
        intro v' w' hown' hgr hnil
        have hb2 : Below w.heap.size w w' := Below.grown (bAlloc hb _) hgr (by have := hb.size; simp; omega) HO.out.base_le
        have hw2 : OwnL w' w.heap.size 5 1 v' bc (le n0 (j + 1)) := by
          unfold OwnL
          rw [le_snoc, List.length_append, le_length, List.flatMap_append]
          simpa [bc] using hown'
        obtain ⟨A2, c2, hv2⟩ := hw2.shape
        rw [le_length] at hv2
        subst hv2
        have HW2 := Lib.hid hw2
        clear hown' hgr hnil hw2
        go_wp2
        go_roundw
        case rel => exact ⟨j + 1, by omega, by go_num, q / 256, rfl, Lib.hid (by rw [hq.out, shr_step]), by omega, by omega, A2, c2, rfl, HW2.out, hb2⟩
        case measure => simp [intOf]; omega
      · obtain rfl : j = size := by omega
        have hl : (le n0 j).length = j := le_length _ _
        have hcv : (convert 40 9 (.slice A j c)).run Try.prog wr = .ok (str (le n0 j)) wr := by
          obtain ⟨g, rfl, -, -, -⟩ := HO.out.formA (by omega)
          have h := run_convert_bytes_back (P := Try.prog) wr 40 9 5 ⟨g, 0, none⟩ c (le n0 j) Try.underlying40 Try.underlying5 Try.underlying9 (fun k hk => by
            rw [Go.WideShapes.add_plain, Nat.zero_add]
            exact HO.out.one (h := fun b : UInt8 => Value.int .u8 (b.toNat : Int)) (fun _ => rfl) hk)
          rw [hl] at h
          exact h
        clear hl
        go_wp2
        go_ret
        exact ⟨rfl, hb⟩

end Go.Proofs.Ytmggnadhjgadnaa
