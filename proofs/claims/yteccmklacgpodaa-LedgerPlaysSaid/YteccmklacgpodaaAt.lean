/-
  The document's At.
-/
import Derived.Test.YteccmklacgpodaaAtP
import Derived.Test.YteccmklacgpodaaMildL
import Derived.Test.YteccmklacgpodaaSame
namespace Go.Proofs.Yteccmklacgpodaa
open Go.RowKit
set_option maxRecDepth 100000
set_option linter.unusedSimpArgs false
theorem key_kindsA : kindsOf Try.prog 100 41 = some [.i64, .i64, .i64, .i64] := by kernel_rfl
theorem key_eql (a b : Key4) (W : World) : (binOp .eql 41 (.agg #[.int .i64 a.frame, .int .i64 a.emitter, .int .i64 a.kind, .int .i64 a.ord]) (.agg #[.int .i64 b.frame, .int .i64 b.emitter, .int .i64 b.kind, .int .i64 b.ord])).run Try.prog W = .ok (.bool (decide (a = b))) W := by
  have := eql_ints (P := Try.prog) key_kindsA (fun cs => by unfold valOf; rw [Try.underlying41]) (xs := [.int .i64 a.frame, .int .i64 a.emitter, .int .i64 a.kind, .int .i64 a.ord]) (ys := [.int .i64 b.frame, .int .i64 b.emitter, .int .i64 b.kind, .int .i64 b.ord]) (keyI a) (keyI b) rfl rfl rfl rfl W
  rw [keyI_dec] at this
  exact this
set_option maxHeartbeats 4000000 in
theorem rat_any (A : Option Addr) (c : Nat) (L : List Ev) (key : Key4) (w : World) (hL : L.length ≤ 1000) (hr : Rd w w.heap.size A (L.flatMap Ev.cells)) :
    Calls Try.prog 52 #[.slice A L.length c, key.val] w fun e w' => e = .returned (.int .i64 (atI L key)) ∧ Below w.heap.size w w' := by
  obtain ⟨n, hn⟩ : ∃ n, L.length = n := ⟨_, rfl⟩
  have HLE := Lib.hid (atN_le L key)
  have HAT : Hid (∀ (h : atN L key < L.length), (L[atN L key]'h).key = key) := Lib.hid (fun h => atN_key h)
  have HLT : Hid (∀ j (hj : j < L.length), j < atN L key → decide (L[j].key = key) = false) := Lib.hid (fun j hj h => decide_eq_false (atN_lt hj h))
  have HAI := Lib.hid (show atI L key = if atN L key < L.length then (atN L key : Int) else -1 from rfl)
  rw [hn] at hL ⊢
  have HN := Lib.hid hn
  have HR := Lib.hid hr
  obtain ⟨p, hp⟩ : ∃ p, atN L key = p := ⟨_, rfl⟩
  have HP := Lib.hid hp
  unfold Key4.val
  clear hr hn hp
  go_enter Try.func52, Try.ntmps52
  go_upto_region 1 with fail
  obtain ⟨W, hW⟩ : ∃ W, W = w.alloc (.cells #[.int .i64 key.frame, .int .i64 key.emitter, .int .i64 key.kind, .int .i64 key.ord] 41) := ⟨_, rfl⟩
  have HK : Hid (Blk W w.heap.size 41 #[.int .i64 key.frame, .int .i64 key.emitter, .int .i64 key.kind, .int .i64 key.ord]) := Lib.hid (by rw [hW]; exact Blk.new _ _ _)
  have HB0 : Hid (Below w.heap.size w W) := Lib.hid (by rw [hW]; exact bAlloc (Below.refl _ _) _)
  rw [← hW]
  clear hW
  go_wp2_with fail
  go_loopw [5] (fun v wr => ∃ k : Nat, k ≤ n ∧ k ≤ p ∧ v = .int .i64 k ∧ Hid (Below W.heap.size W wr)) (fun v _ => n - (intOf v).toNat)
  case atStart => exact ⟨0, Nat.zero_le _, Nat.zero_le _, rfl, Lib.hid (Below.refl _ _)⟩
  case round =>
    obtain ⟨k, hk, hkp, rfl, HQ⟩ := hrel
    have HB := Lib.hid (HB0.out.trans (HQ.out.mono HB0.out.size))
    by_cases hlt : k < n
    · have hkL : k < L.length := by rw [HN.out]; exact hlt
      obtain ⟨b, off, rfl, hbl, x0, x1, x2, x3, -⟩ := (HR.out.below HB.out (Nat.le_refl _)).ev hkL
      have hblw := Nat.lt_of_lt_of_le hbl HB.out.size
      obtain ⟨y0, y1, y2, y3⟩ := Blk.key (HK.out.on HQ.out)
      have hlk := (HK.out.on HQ.out).lt
      have HD : Hid (decide (L[k].key = key) = decide (k = p)) := Lib.hid (by
        rcases Nat.lt_or_ge k p with h | h
        · rw [HLT.out k hkL (by rw [HP.out]; exact h), decide_eq_false (by omega)]
        · obtain rfl : k = p := by omega
          have := HAT.out (by rw [HP.out]; exact hkL)
          simp only [HP.out] at this
          rw [decide_eq_true this, decide_eq_true rfl])
      obtain ⟨x, hx⟩ : ∃ x, L[k] = x := ⟨_, rfl⟩
      rw [hx] at x0 x1 x2 x3 HD
      have HDX : Hid (decide (x.key = key) = decide (k = p)) := HD
      clear hx HD
      by_cases hkp' : k = p
      · subst hkp'
        rw [decide_eq_true rfl] at HDX
        have HF : Hid (atI L key = k) := Lib.hid (by rw [HAI.out, HP.out, if_pos hkL])
        go_wp2_with fail
        refine wp_region_mild (by kernel_rfl) (by kernel_rfl) ?_
        repeat (go_big_quiet_step (fail))
        refine wpQuiet_runs_mild (.bool true) rfl (fun W => by rw [← HDX.out]; exact runs_eql rfl rfl rfl (by kernel_rfl) (key_eql _ _) W) ?_
        simp only [Act.put, List.setIfInBounds_toArray, List.set_cons_zero, List.set_cons_succ]
        repeat (go_big_quiet_step (fail))
        refine wpQuiet_nil ?_
        intro w1 hw'
        obtain ⟨⟨wq, k1⟩, hw''⟩ := hw'
        subst hw''
        go_wp2
        go_ret
        exact ⟨ret_int HF.out.symm, HB.out.trans (k1.mono HB.out.size)⟩
      · rw [decide_eq_false hkp'] at HDX
        go_wp2_with fail
        refine wp_region_mild (by kernel_rfl) (by kernel_rfl) ?_
        repeat (go_big_quiet_step (fail))
        refine wpQuiet_runs_mild (.bool false) rfl (fun W => by rw [← HDX.out]; exact runs_eql rfl rfl rfl (by kernel_rfl) (key_eql _ _) W) ?_
        simp only [Act.put, List.setIfInBounds_toArray, List.set_cons_zero, List.set_cons_succ]
        repeat (go_big_quiet_step (fail))
        refine wpQuiet_nil ?_
        intro w1 hw'
        obtain ⟨⟨wq, k1⟩, hw''⟩ := hw'
        subst hw''
        go_wp2
        go_roundw
        case rel => exact ⟨k + 1, by omega, by omega, by go_num, Lib.hid (bTrans HQ.out k1)⟩
        case measure => simp [intOf]; omega
    · obtain rfl : k = n := by omega
      have HF : Hid (atI L key = -1) := Lib.hid (by rw [HAI.out, HP.out, if_neg (by rw [HN.out]; omega)])
      go_wp2
      go_ret
      exact ⟨ret_int HF.out.symm, HB.out⟩
end Go.Proofs.Yteccmklacgpodaa
