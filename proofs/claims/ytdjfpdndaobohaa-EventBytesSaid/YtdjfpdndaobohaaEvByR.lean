/-
  The document's Bytes of a list of events.
-/
import Derived.Test.YtdjfpdndaobohaaEvByA
namespace Go.Proofs.Ytdjfpdndaobohaa
open Go.RowKit
set_option maxRecDepth 100000
set_option linter.unusedSimpArgs false
theorem rnum_int (n : Int) (h0 : 0 ≤ n) (h1 : n < 18446744073709551616) (w : World) : Calls Try.prog 43 #[.int .u64 n] w fun e w' => e = .returned (.string ⟨(numB n.toNat).toArray⟩) ∧ Below w.heap.size w w' := by
  have h := rnum_any n.toNat (by omega) w
  rw [Int.toNat_of_nonneg h0] at h
  exact h
set_option maxHeartbeats 8000000 in
theorem rbytes_any (A : Option Addr) (c : Nat) (L : List Ev) (hL : L.length ≤ 1000) (w : World) (hr : Rd w w.heap.size A (L.flatMap Ev.cells)) (hok : orderedB L = true) :
    Calls Try.prog 18 #[.slice A L.length c] w fun e w' => e = .returned (.string ⟨(bytesB L).toArray⟩) ∧ Below w.heap.size w w' := by
  obtain ⟨h64, hev⟩ := ordered_ok hok
  have HEV := Lib.hid hev
  have HR := Lib.hid hr
  have HLN := Lib.hid (rnum_int L.length (by omega) (by omega))
  have hnl := numB_le (n := L.length) (by omega)
  obtain ⟨n, hn⟩ : ∃ n, L.length = n := ⟨_, rfl⟩
  have HBY := Lib.hid (show bytesB L = numB L.length ++ L.flatMap evB from rfl)
  rw [hn] at HBY HLN hnl hL h64 ⊢
  have HN := Lib.hid hn
  rw [show ((n : Int)).toNat = n from rfl] at HLN
  clear hr hok hev hn
  go_enter Try.func18, Try.ntmps18
  go_wp2_with (first | (go_at_call 43; refine (HLN.out _).mono ?_; rintro e w2 ⟨rfl, hb2⟩))
  have HB2 := Lib.hid hb2
  clear hb2
  go_loopw [3, 4] (fun s v wr => ∃ k : Nat, k ≤ n ∧ v = .int .i64 k ∧ s = .string ⟨(numB n ++ (L.take k).flatMap evB).toArray⟩ ∧ Hid (Below w.heap.size w wr)) (fun _ v _ => n - (intOf v).toNat)
  case atStart => exact ⟨0, Nat.zero_le _, rfl, by simp, HB2⟩
  case round =>
    clear HB2 HLN
    obtain ⟨k, hk, rfl, rfl, HB⟩ := hrel
    by_cases hlt : k < n
    · have hkL : k < L.length := by rw [HN.out]; exact hlt
      obtain ⟨b, off, rfl, hbl, x0, x1, x2, x3, x4, x5, x6, x7, x8⟩ := (HR.out.below HB.out (Nat.le_refl _)).ev hkL
      have HTK := Lib.hid (bytes_take L k hkL)
      have hpl := bytesB_len (L.take k) (fun e he => HEV.out e (List.mem_of_mem_take he))
      have hx0 := ok_pos (HEV.out _ (List.getElem_mem hkL))
      obtain ⟨x, hx⟩ : ∃ x, L[k] = x := ⟨_, rfl⟩
      rw [hx] at x0 x1 x2 x3 x4 x5 x6 x7 x8 HTK hx0
      obtain ⟨pre, hpre⟩ : ∃ pre, numB n ++ (L.take k).flatMap evB = pre := ⟨_, rfl⟩
      have hpre2 : pre.length ≤ 6000 := by
        rw [← hpre, List.length_append]
        rw [List.length_take] at hpl
        omega
      have HNX : Hid (numB n ++ (L.take (k + 1)).flatMap evB = pre ++ evB x) := Lib.hid (by rw [HTK.out, ← List.append_assoc, hpre])
      rw [hpre]
      clear hpl hpre hx HTK hnl
      go_upto_region 6 with fail
      obtain ⟨W, hW⟩ : ∃ W, W = wr.alloc (.cells #[.int .i64 x.frame, .int .i64 x.emitter, .int .i64 x.kind, .int .i64 x.ord, .int .i64 x.asset, .int .i64 x.gain, .int .i64 x.pan, .int .i64 x.prio, .int .i64 x.len] 25) := ⟨_, rfl⟩
      have hbk : Blk W wr.heap.size 25 #[.int .i64 x.frame, .int .i64 x.emitter, .int .i64 x.kind, .int .i64 x.ord, .int .i64 x.asset, .int .i64 x.gain, .int .i64 x.pan, .int .i64 x.prio, .int .i64 x.len] := by rw [hW]; exact Blk.new _ _ _
      have hbW : Below w.heap.size w W := by rw [hW]; exact bAlloc HB.out _
      rw [← hW]
      have HBK := Lib.hid hbk
      have HBW := Lib.hid hbW
      obtain ⟨e0, e1, e2, e3, e4, e5, e6, e7, e8⟩ := Blk.ev hbk
      have hlW := hbk.lt
      have H0 := Lib.hid (fun U => rnum_int x.frame (by omega) (by omega) U)
      have H1 := Lib.hid (fun U => rnum_int x.emitter (by omega) (by omega) U)
      have H2 := Lib.hid (fun U => rnum_int x.kind (by omega) (by omega) U)
      have H3 := Lib.hid (fun U => rnum_int x.ord (by omega) (by omega) U)
      have H4 := Lib.hid (fun U => rnum_int x.asset (by omega) (by omega) U)
      have H5 := Lib.hid (fun U => rnum_int x.gain (by omega) (by omega) U)
      have H6 := Lib.hid (fun U => rsigned_any x.pan (by omega) (by omega) U)
      have H7 := Lib.hid (fun U => rnum_int x.prio (by omega) (by omega) U)
      have H8 := Lib.hid (fun U => rnum_int x.len (by omega) (by omega) U)
      unfold strN at H6
      have l0 := numB_le (n := x.frame.toNat) (by omega)
      have l1 := numB_le (n := x.emitter.toNat) (by omega)
      have l2 := numB_le (n := x.kind.toNat) (by omega)
      have l3 := numB_le (n := x.ord.toNat) (by omega)
      have l4 := numB_le (n := x.asset.toNat) (by omega)
      have l5 := numB_le (n := x.gain.toNat) (by omega)
      have l6 := numB_le (n := zig x.pan) (by unfold zig; split <;> omega)
      have l7 := numB_le (n := x.prio.toNat) (by omega)
      have l8 := numB_le (n := x.len.toNat) (by omega)
      clear hW hbk hbW x0 x1 x2 x3 x4 x5 x6 x7 x8 HB
      refine wp_region_mild (by kernel_rfl) (by kernel_rfl) ?_
      repeat (go_big_quiet_step ((go_at_call 43; first | (with_reducible exact mild_of (H0.out _)) | (with_reducible exact mild_of (H1.out _)) | (with_reducible exact mild_of (H2.out _)) | (with_reducible exact mild_of (H3.out _)))))
      refine wpQuiet_nil ?_
      intro w1 hw'
      obtain ⟨⟨wq, k1⟩, hw''⟩ := hw'
      subst hw''
      obtain ⟨k1c, k1f⟩ := bcl k1
      have k1z := k1.size
      have hl1 := Nat.lt_of_lt_of_le hlW k1z
      go_wp2_with fail
      refine wp_region_mild (by kernel_rfl) (by kernel_rfl) ?_
      repeat (go_big_quiet_step ((first | (go_at_call 44; exact mild_of (H6.out _)) | (go_at_call 43; first | (with_reducible exact mild_of (H4.out _)) | (with_reducible exact mild_of (H5.out _)) | (with_reducible exact mild_of (H7.out _)) | (with_reducible exact mild_of (H8.out _))))))
      refine wpQuiet_nil ?_
      intro w2 hw'
      obtain ⟨⟨wq, k2⟩, hw''⟩ := hw'
      subst hw''
      go_wp2
      go_roundw
      case rel => exact ⟨k + 1, by omega, by go_num, by rw [HNX.out]; unfold evB; simp only [strN_append, List.append_assoc], Lib.hid (bTrans (bTrans HBW.out k1) k2)⟩
      case measure => simp [intOf]; omega
    · obtain rfl : k = n := by omega
      have HF : Hid (numB k ++ (L.take k).flatMap evB = bytesB L) := Lib.hid (by rw [HBY.out, List.take_of_length_le (by rw [HN.out]; exact Nat.le_refl _)])
      rw [HF.out]
      go_wp2
      go_ret
      exact ⟨rfl, HB.out⟩
end Go.Proofs.Ytdjfpdndaobohaa
